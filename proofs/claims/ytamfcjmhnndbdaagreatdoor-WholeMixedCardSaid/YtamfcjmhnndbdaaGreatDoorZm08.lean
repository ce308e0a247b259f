/- Part 8 of the proof. -/
import Derived.Test.YtamfcjmhnndbdaaGreatDoorZm00
import Derived.Test.YtamfcjmhnndbdaaGreatDoorZm05
import Derived.Test.YtamfcjmhnndbdaaGreatDoorZm06
import Derived.Test.YtamfcjmhnndbdaaGreatDoorZm07
import Derived.Deep.RegionWith
import Derived.Lib.Strings
import Derived.StillTail
open Go.Value renaming agg→nD,bool→nC,int→nk,pointer→nA,slice→ny,string→nz,tuple→nE,int→lQ
open Go.Obj renaming cells→nH
open Go.IntKind renaming i64→nI,u64→nJ
open Go.Ending renaming returned→nG,returned→lJ
open Go.Lib renaming hid→jH
open Go.Proofs.Tryz renaming prog→jI
open Go renaming World→jJ,Value→jP,Calls→jV,bodyPost_ret→jZ,maxLen→j3,TypeId→ko,undef→kI,results→kQ,Oper→lY,Program→ma,wpQuiet_nil→mK
open Nat renaming le_refl→jK,le_trans→jY,lt_of_lt_of_le→kG,zero_le→kH,lt_or_ge→kZ,pow_le_pow_right→lg,le_of_eq→mR
open List renaming getElem?_cons_succ→jM,getElem?_cons_zero→jN,getElem?_toArray→jO,getElem?_eq_getElem→jW,length_append→j5,take_succ_cons→ky,mem_of_getElem?→kK,length_drop→kX,replicate→lh,getElem?_eq_some_iff→lF,all_eq_true→lM,range→l5,mem_range→mf,length_take→mi,mem_cons→mM,size_toArray→mP,length_eq_zero_iff→mU
open Go.RowKit renaming Below→jS,Hid→jX,intOf→kT
open Go.RowKit.Below renaming refl→jT
open Bool renaming and_eq_true→j4,false_eq_true→lV
open UInt8 renaming ofNat→kg
open Array renaming getElem?_eq_some_iff→ku,getElem?_modify→lu,replicate→lD,getD_eq_getD_getElem?→lG,getElem?_eq_none→mZ
open Go.World renaming setCell→kz,cell?→mI
open ByteArray renaming size_extract→kC
open Go.Act renaming put→kE
open Go.Code renaming region→ll
open Go.Lit renaming int→lI
open Go.Region renaming ready→lN,binds→mh
open Go.Instr renaming lookup→lW,makeFunc→mJ
open Option.some renaming inj→l8
open Option renaming none→V,some→U
open Go.Addr renaming mk→Z
namespace Go.Proofs.YtamfcjmhnndbdaaGreatDoor
set_option linter.unusedVariables false
set_option linter.unusedSimpArgs false
set_option maxRecDepth 100000
set_option maxHeartbeats 8000000
variable {α:Type}{p:Prop}{a a0:Act}
section
open Go.RowKit Go.Maps
theorem CQ{p:α->List (nM α)->Bool}:∀{s:List (nM α)},nM.o7 p s=true->∀{y:nM α},y∈s->y.all p=true
 |[],_,_,A=>by cases A
 |z::zs,h,y,A=>by
  simp only[nM.o7,j4]at h;rcases mM.1 A with rfl|A
  .exact h.1
  .exact CQ h.2 A
theorem Gu(h:p:=by
 have CF:=jH hcall;clear hcall;go_wp2_with fail;refine(CF _).mono ?_;rintro e w2 ⟨rfl,hb2⟩;have PV:jX (jS (g+2) w1 w2):=jH (hsz▸hb2);clear hb2;go_wp2_with fail;go_meet;exact⟨rfl,PV⟩):p:=h
theorem M7(x:nM IL):∀(t:nM TL)(w:jJ)(tv iv:jP)(bo bf bm:Nat),oQ w tv t.sub->pJ w iv x.sub->t.all oK=true->x.all qz=true->x.count<=100000->x.lab.text.length<=j3->FtE bo bf bm w->
  jV jI 197 #[nD #[nk nI t.lab.kind,nk nI t.lab.size,tv,nk nI t.lab.tail],nD #[nz (txt x.lab),nC x.lab.list,iv],nA (U (Z bo 0 V)),nA (U (Z bf 0 V))] w
   λe w'=>e=nG (nC (um x t))/\jS w.heap.size w w':=by
 induction x using nM.ind with
 |h a s bV=>
  intro t w tv iv bo bf bm au av Y ah ax bA bW;simp only[nM.oZ,nM.qx]at*;obtain⟨ot,ct,rfl,_,_⟩:=au.slice;obtain⟨oi,ci,rfl,_,_⟩:=nW.slice av;obtain⟨m,aX⟩:=nV s.length;have bX:m<=100000:=by
   have h1:=nM.sJ s;simp only[nM.count]at ax;omega
  have Q:oK t.lab t.sub=true:=by
   obtain⟨ta,ts⟩:=t;simp only[nM.all,j4]at Y;exact Y.1
  have aY:t.sub.length<=16:=by
   have h1:=Q;unfold oK qA at h1;simp only[decide_eq_true_eq]at h1;omega
  have ay:∀y,y∈t.sub->y.all oK=true:=λy E=>by
   obtain⟨ta,ts⟩:=t;simp only[nM.all,j4]at Y;exact CQ Y.2 E
  simp only[nM.all,j4]at ah;have az:∀y,y∈s->y.all qz=true:=λy E=>CQ ah.2 E
  have bB:a.list=true\/m=0:=by
   have h1:=ah.1;unfold qz vB at h1;split at h1;.rename_i hl;exact .inl hl
   .simp only[decide_eq_true_eq]at h1;exact .inr nL
  have hcall:=a0X t a ot oi m ct ci Q bA bX;have bC:=jH au;have bY:=jH av;have bK:jX (∀(k:Nat)(y:nM IL),s[k]? =U y->y.count<=100000):=jH λk y E=>by
   have:=nM.BO (kK E);simp only[nM.count]at ax;omega
  have dY:=jH bV;have bD:jX (∀k,rA t a m=true->k<m->∃y,rQ t k=U y/\y∈t.sub):=jH λk h hk=>M6 Q h bB hk
  have bL:=jH ay;have bM:=jH az;obtain⟨g,hg⟩:=nV w.heap.size;have aA:=jH (BS (w:=w) t.lab.kind t.lab.size t.lab.tail (ny ot t.sub.length ct) (txt a) a.list (ny oi m ci));have bZ:=jH aX;obtain⟨R,bN⟩:=nV (um (.node a s) t);rw[bN];have aZ:jX (R=(rA t a m&&sP s t 0)):=jH (by rw[<-bN,<-aX];rfl);have cz:=jH bW;have aB:=jH hcall;have I:jX (∀W,xx W bm->∀k p,(lI nI k).wf=true->uF PS k=U p->(lW Ur (.map (U bm)) (nk nI k) false).run jI W=.ok (nD #[p.1,p.2]) W):=jH λW h k p h1 h2=>h.look k h1 p h2
  have Jh:=a0Y;rw[aX];rw[hg]at aA⊢;clear au av Y ah ax bA bW Q ay az bB hcall bN bV aX;obtain⟨cK,bE⟩:=nV (rA t a m);rw[bE]at aB aZ bD;clear bE;obtain⟨aa,aC⟩:=nV t.sub.length;have cZ:=jH aC;rw[aC]at bC aA aB aY⊢;clear aC;obtain⟨bg,aD⟩:=nV t.lab.kind;obtain⟨bq,aF⟩:=nV t.lab.size;obtain⟨kt,aG⟩:=nV t.lab.tail;have df:=jH aD;have dh:=jH aF;have dw:=jH aG;rw[aD,aF,aG]at aA aB⊢;clear aD aF aG;go_in;go_upto_region 1 with fail;obtain⟨aH,⟨t0,dx,dz,t3⟩,⟨dZ,ed,bO⟩,hsz⟩:=aA.out _ rfl;generalize (w.alloc _).alloc _=w1 at*;have dA:=jH aH;have J:=jH (cz.below (hg.symm▸aH));have o0:=J.o.c0;have dB:jX (w1.cell? (Z g 0 V)=U (nk nI bg)/\w1.cell? (Z g 1 V)=U (nk nI bq)/\w1.cell? (Z g 2 V)=U (ny ot aa ct)/\w1.cell? (Z g 3 V)=U (nk nI kt)/\w1.cell? (Z (g+1) 2 V)=U (ny oi m ci)):=jH ⟨t0,dx,dz,t3,bO⟩;clear aA aH;go_cut [17] (λbv ek=>bv=nC (!cK)/\jX (jS (g+2) w1 ek));case first=>
   rcases aB.out with⟨rfl,hcall⟩|⟨rfl,hcall⟩|⟨rfl,hcall⟩|⟨rfl,hcall⟩|⟨rfl,hcall⟩
   .have A:(lW Ur (.map (U bm)) (nk nI 1) false).run jI w1=.ok (nD #[kf1.1,kf1.2]) w1:=I.out w1 J.m 1 kf1 nO rfl
    simp only[kf1,PR]at A;exact Gu
   .have A:(lW Ur (.map (U bm)) (nk nI 2) false).run jI w1=.ok (nD #[kf2.1,kf2.2]) w1:=I.out w1 J.m 2 kf2 nO rfl
    simp only[kf2,PR]at A;exact Gu
   .have A:(lW Ur (.map (U bm)) (nk nI 3) false).run jI w1=.ok (nD #[kf3.1,kf3.2]) w1:=I.out w1 J.m 3 kf3 nO rfl
    simp only[kf3,PR]at A;exact Gu
   .have A:(lW Ur (.map (U bm)) (nk nI 4) false).run jI w1=.ok (nD #[kf4.1,kf4.2]) w1:=I.out w1 J.m 4 kf4 nO rfl
    simp only[kf4,PR]at A;exact Gu
   .have A:(lW Ur (.map (U bm)) (nk nI 5) false).run jI w1=.ok (nD #[kf5.1,kf5.2]) w1:=I.out w1 J.m 5 kf5 nO rfl
    simp only[kf5,PR]at A;exact Gu
  clear t0 dx dz t3 dZ ed o0 aB I Jh;case rest=>
  obtain⟨rfl,PV⟩:=hcut;have bF:jX (jS g w wc):=jH (dA.trans (PV.mono nL));have eD:=jH (J.below (hsz.symm▸PV.out));have dC:=(PV.cell (p:=(Z (g+1) 2 V)) (by show g+1<g+2;omega)).trans bO;clear bO;cases cK with
  |false=>
   have aI:jX (R=false):=jH (by rw[aZ.out];rfl);go_wp2_with fail;go_returns;exact⟨by rw[aI.out];rfl,bF.out⟩
  |true=>
   have bG:jX (R=sP s t 0):=jH (by rw[aZ.out];rfl);have bP:g+2<=wc.heap.size:=jY (mR hsz.symm) PV.size;clear aZ;go_wp2_with fail;clear dC;go_loopw [21] (λkv eu=>∃k:Nat,kv=nk nI (k:Int)/\k<=m/\jX (jS (g+2) wc eu)/\jX (sP (s.take k) t 0=true)) (λkv _=>m -(kT kv).toNat);case atStart=>exact⟨0,rfl,nL,jH (jT _ _),jH rfl⟩
   case round=>
    obtain⟨k,rfl,hk,ai,dD⟩:=hrel;have aJ:jX (jS g w wr):=jH (bF.trans (ai.mono nL));by_cases c:k<m
    .obtain⟨y,E⟩:∃y,s[k]? =U y:=⟨_,jW (by rw[bZ.out];exact c)⟩
     obtain⟨z,ae,bH⟩:=bD.out k trivial c;have aK:jS w.heap.size w wr:=hg.symm▸aJ.out;obtain⟨b,off,u,rfl,hlt,_,dE,dF,y2,bQ,aL⟩:=nW.at_ (Shape.nX.below bY aK) E;obtain⟨ou,cu,rfl,_,_⟩:=nW.slice bQ;have aM:oQ wr (ny ot aa ct) t.sub:=Shape.nX.below bC aK;have aN:t.sub[if t.lab.kind=4 then 0 else k]? =U z:=by
      unfold rQ at ae;by_cases dG:t.lab.kind=4;.rw[if_pos dG]at ae⊢;exact ae
      .rw[if_neg dG]at ae⊢;exact ae
     obtain⟨bt,af,eF,dH,ag,z0,dI,dJ,z3,aO,bR⟩:=oQ.at_ aM aN;obtain⟨bu,zc,rfl,_,_⟩:=aO.slice;subst dH;obtain⟨bS,aP⟩:=nV z.sub.length;obtain⟨bz,aQ⟩:=nV y.sub.length;have aR:(if t.lab.kind=4 then 0 else k)<aa:=by rw[<-cZ.out];exact(lF.1 aN).1
     have dK:jX (∀W,jS wr.heap.size wr W->jV jI 198 #[nD #[nk nI bg,nk nI bq,ny (U (Z bt af V)) aa ct,nk nI kt],nk nI (k:Nat)] W λe w'=>e=nG (nD #[nk nI z.lab.kind,nk nI z.lab.size,ny bu bS zc,nk nI z.lab.tail])/\jS W.heap.size W w'):=jH λW O=>by
      have h:=KC t k W (ny (U (Z bt af V)) aa ct) (Shape.nX.below aM O) z bu bS zc ⟨bt,af,⟨aa,ct,rfl,aR,nL⟩,kG ag O.size,(O.cell (p:=(Z bt _ V)) ag).trans z0,(O.cell (p:=(Z bt _ V)) ag).trans dI,(O.cell (p:=(Z bt _ V)) ag).trans (aP▸dJ),(O.cell (p:=(Z bt _ V)) ag).trans z3⟩;rw[df.out,dh.out,dw.out]at h;exact h
     have aj:=cz.below aK;have dL:jX (∀W,jS wr.heap.size wr W->jV jI 197 #[nD #[nk nI z.lab.kind,nk nI z.lab.size,ny bu bS zc,nk nI z.lab.tail],nD #[nz (txt y.lab),nC y.lab.list,ny ou bz cu],nA (U (Z bo 0 V)),nA (U (Z bf 0 V))] W λe w'=>e=nG (nC (um y z))/\jS W.heap.size W w'):=jH λW O=>by
      have h:=dY.out y (kK E) z W (ny bu z.sub.length zc) (ny ou y.sub.length cu) bo bf bm (Shape.nX.below aO O) (Shape.nX.below bQ O) (bL z bH) (bM y (kK E)) (bK k y E) aL (aj.below O);rw[aP,aQ]at h;exact h
     rw[aQ]at y2;have dM:jX (sP (s.take (k+1)) t 0=um y z):=jH (by rw[PU E ae,dD.out];rfl);have dN:jX (um y z=false->R=false):=jH λh=>by rw[bG.out];exact EH E (by rw[Nat.zero_add];exact ae) h
     have bI:jX (wr.cell? (Z bf 0 V)=U (.func (.func 197) #[] #[nA (U (Z bo 0 V)),nA (U (Z bf 0 V))])/\bf<wr.heap.size):=jH ⟨aj.f.cell 0,aj.f.lt⟩;have dO:jX (g+2<=wr.heap.size/\wr.cell? (Z g 0 V)=U (nk nI bg)/\wr.cell? (Z g 1 V)=U (nk nI bq)/\wr.cell? (Z g 2 V)=U (ny (U (Z bt af V)) aa ct)/\wr.cell? (Z g 3 V)=U (nk nI kt)):=jH (by
      have q:∀i,wr.cell? (Z g i V)=w1.cell? (Z g i V):=λi=>(ai.cell (p:=(Z g i V)) (by show g<g+2;omega)).trans (PV.cell (p:=(Z g i V)) (by show g<g+2;omega))
      obtain⟨a0,a1,a2,a3,_⟩:=dB.out;exact⟨jY bP ai.size,(q 0).trans a0,(q 1).trans a1,(q 2).trans a2,(q 3).trans a3⟩)
     generalize um y z=eB at*;obtain⟨bT,aS⟩:=nV y.lab.list;obtain⟨bU,aT⟩:=nV (txt y.lab);obtain⟨eG,aU⟩:=nV z.lab.kind;obtain⟨zs,aV⟩:=nV z.lab.size;obtain⟨eH,aW⟩:=nV z.lab.tail;rw[aS,aT,aU,aV,aW]at dL;rw[aU,aV,aW]at dK;rw[aS]at dF;rw[aT]at dE;have dP:jX (∀W,wr.alloc (nH #[nz bU,nC bT,ny ou bz cu] IT)=W->jS wr.heap.size wr W/\nP W wr.heap.size #[nz bU,nC bT,ny ou bz cu] IT):=jH λW h=>by subst h;exact⟨(jT _ _).alloc (jK _) _,nP.new _ _ _⟩
     clear aS aT aU aV aW aP aQ z0 dI dJ z3 aO bR aL bQ aM aj ae aN E aR bH;go_upto_region 6 with fail;obtain⟨C,N⟩:=dP.out _ rfl;generalize wr.alloc _=w5 at*;obtain⟨dQ,a0,a1,a2,a3⟩:=dO.out;have ak:∀(x:rP w5) b i,b<wr.heap.size->x.at_.cell? (Z b i V)=wr.cell? (Z b i V):=λx b i h=>(x.is.cell (p:=(Z b i V)) (kG h C.size)).trans (C.cell (p:=(Z b i V)) h)
     have dR:∀x:rP w5,x.at_.cell? (Z bf 0 V)=U (.func (.func 197) #[] #[nA (U (Z bo 0 V)),nA (U (Z bf 0 V))]):=λx=>(ak x bf 0 bI.2).trans bI.1
     have b0:∀x:rP w5,x.at_.cell? (Z g 0 V)=U (nk nI bg):=λx=>(ak x g 0 nL).trans a0
     have b1:∀x:rP w5,x.at_.cell? (Z g 1 V)=U (nk nI bq):=λx=>(ak x g 1 nL).trans a1
     have dS:∀x:rP w5,x.at_.cell? (Z g 2 V)=U (ny (U (Z bt af V)) aa ct):=λx=>(ak x g 2 nL).trans a2
     have b3:∀x:rP w5,x.at_.cell? (Z g 3 V)=U (nk nI kt):=λx=>(ak x g 3 nL).trans a3
     have dU:∀x:rP w5,x.at_.cell? (Z wr.heap.size 0 V)=U (nz bU):=λx=>(x.is.cell (p:=(Z wr.heap.size 0 V)) N.lt).trans (N.cell 0)
     have e1:∀x:rP w5,x.at_.cell? (Z wr.heap.size 1 V)=U (nC bT):=λx=>(x.is.cell (p:=(Z wr.heap.size 1 V)) N.lt).trans (N.cell 1)
     have e2:∀x:rP w5,x.at_.cell? (Z wr.heap.size 2 V)=U (ny ou bz cu):=λx=>(x.is.cell (p:=(Z wr.heap.size 2 V)) N.lt).trans (N.cell 2)
     have dV:=jH (λx:rP w5=>dK.out x.at_ (C.trans (x.is.mono C.size)));have dW:=jH (λx:rP w5=>dL.out x.at_ (C.trans (x.is.mono C.size)));have bJ:jX (∀x:rP w5,jS (g+2) wc x.at_/\jS g w x.at_):=jH λx=>
      have h1:=C.trans (x.is.mono C.size)
      ⟨ai.trans (h1.mono dQ),aJ.trans (h1.mono nL)⟩
     clear ak C N a0 a1 a2 a3 dE dF y2 hlt;refine oz nN nN ?_;repeat(go_big_quiet_step (first|(go_at_call 198;exact Calls.after (dV _))|(go_at_call 197;exact Calls.after (dW _))))
     refine mK ?_;intro x;cases eB with
     |true=>
      clear dR b0 b1 dS b3 dU e1 e2;go_wp2_with fail;exact⟨⟨k+1,by go_num,nL,jH (bJ x).1,dM⟩,by simp[kT];omega⟩
     |false=>
      have aI:=jH (dN rfl);clear dR b0 b1 dS b3 dU e1 e2;go_wp2_with fail;go_returns;exact⟨by rw[aI.out];rfl,(bJ x).2⟩
    .obtain rfl:k=m:=nL
     have dX:jX (R=true):=jH (by
      have h1:=dD.out;rw[List.take_of_length_le (mR bZ.out)]at h1;rw[bG.out,h1])
     go_wp2_with fail;go_returns;exact⟨by rw[dX.out];rfl,aJ.out⟩
def rC(t:nM TL)(x:nM IL):Int:=if p9 t=true/\rZ x=true then if um x t=true then 0 else 12 else 1
theorem CR{t:nM TL}(h:p9 t=true):t.all oK=true:=by
 unfold p9 at h;simp only[j4]at h;exact h.2
theorem BU{x:nM IL}(h:rZ x=true):x.all qz=true/\x.count<=100000:=by
 unfold rZ at h;simp only[j4,decide_eq_true_eq]at h;exact⟨h.1.1,nL⟩
theorem DZ(h:p:=by
 go_wp2_with fail;go_returns;exact⟨by rw[HE.out];rfl,HB2.out⟩):p:=h
theorem BV(t:nM TL)(x:nM IL)(w:jJ)(tv iv:jP)(A:oQ w tv t.sub)(C:pJ w iv x.sub)(ax:x.lab.text.length<=j3)(aP:pW w):
  jV jI 157 #[nD #[nk nI t.lab.kind,nk nI t.lab.size,tv,nk nI t.lab.tail],nD #[nz (txt x.lab),nC x.lab.list,iv]] w λe w'=>e=nG (nk nI (rC t x))/\jS w.heap.size w w':=by
 obtain⟨ot,ct,rfl,_,_⟩:=A.slice;obtain⟨oi,ci,rfl,_,_⟩:=nW.slice C;have bJ:∀(fn:Fn)(first cap:Array jP)(w:jJ),(mJ fn first cap).run jI w=.ok (.func fn first cap) w:=λ_ _ _ _=>rfl
 obtain⟨R,av⟩:=nV (rC t x);have aY:=jH av;rw[av];obtain⟨g,hg⟩:=nV w.heap.size;have bK:=jH A;have bL:=jH C;have aV:jX (∀W,jS w.heap.size w W->pW W):=jH λW h=>aP.below h aP.lt
 have aQ:=jH (λW (h:jS w.heap.size w W)=>CE t W (ny ot t.sub.length ct) (Shape.nX.below A h) (aV W h));have aR:=jH (λW (h:jS w.heap.size w W)=>Gl x W (ny oi x.sub.length ci) (Shape.nX.below C h))
 have O:jX (p9 t=true->rZ x=true->∀W bo bf bm,jS w.heap.size w W->FtE bo bf bm W->jV jI 197 #[nD #[nk nI t.lab.kind,nk nI t.lab.size,ny ot t.sub.length ct,nk nI t.lab.tail],nD #[nz (txt x.lab),nC x.lab.list,ny oi x.sub.length ci],nA (U (Z bo 0 V)),nA (U (Z bf 0 V))] W
   λe w'=>e=nG (nC (um x t))/\jS W.heap.size W w'):=jH λh1 h2 W bo bf bm hb aZ=>
  M7 x t W _ _ bo bf bm (Shape.nX.below A hb) (Shape.nX.below C hb) (CR h1) (BU h2).1 (BU h2).2 ax aZ
 have N:=jH (BS (w:=w) t.lab.kind t.lab.size t.lab.tail (ny ot t.sub.length ct) (txt x.lab) x.lab.list (ny oi x.sub.length ci));obtain⟨bg,ay⟩:=nV t.sub.length;obtain⟨bq,az⟩:=nV x.sub.length;rw[ay]at N aQ O⊢;rw[az]at N aR O⊢;obtain⟨bu,aA⟩:=nV t.lab.kind;obtain⟨ts,aB⟩:=nV t.lab.size;obtain⟨tt,aC⟩:=nV t.lab.tail;obtain⟨bz,aD⟩:=nV (txt x.lab);obtain⟨bA,Q⟩:=nV x.lab.list;simp only[aA,aB,aC,aD,Q]at N aQ aR O⊢;have E:jX (R=if p9 t=true/\rZ x=true then if um x t=true then 0 else 12 else 1):=jH av.symm;generalize p9 t=bB at*;generalize rZ x=bC at*;generalize um x t=aW at*;clear A C aP ax ay az aA aB aC aD Q av aY;rw[hg]at N⊢;go_in;go_upto_region 1 with fail;obtain⟨aF,⟨t0,Y,aa,t3⟩,⟨ae,af,ag⟩,hsz⟩:=N.out _ rfl;generalize (w.alloc _).alloc _=w1 at*;have aG:=jH aF
 have aS:jX (∀W,jS (g+2) w1 W->(W.cell? (Z g 0 V)=U (nk nI bu)/\W.cell? (Z g 1 V)=U (nk nI ts)/\W.cell? (Z g 2 V)=U (ny ot bg ct)/\W.cell? (Z g 3 V)=U (nk nI tt))/\
   (W.cell? (Z (g+1) 0 V)=U (nz bz)/\W.cell? (Z (g+1) 1 V)=U (nC bA)/\W.cell? (Z (g+1) 2 V)=U (ny oi bq ci))):=jH λW h=>
  have q:∀b i,b<g+2->W.cell? (Z b i V)=w1.cell? (Z b i V):=λb i hb=>h.cell (p:=(Z b i V)) hb
  ⟨⟨(q g 0 nL).trans t0,(q g 1 nL).trans Y,(q g 2 nL).trans aa,(q g 3 nL).trans t3⟩,(q (g+1) 0 nL).trans ae,(q (g+1) 1 nL).trans af,(q (g+1) 2 nL).trans ag⟩
 clear N aF;go_wp2_with fail;refine(aQ _ (hg.symm▸aG.out)).mono ?_;rintro e w2 ⟨rfl,ah⟩;have I:jX (jS (g+2) w1 w2):=jH (hsz▸ah);have HB2:jX (jS g w w2):=jH (aG.trans (ah.mono nL));clear ah t0 Y aa t3 ae af ag;obtain⟨⟨t0,Y,aa,t3⟩,ae,af,ag⟩:=aS.out _ I.out;cases bB with
 |false=>
  have HE:jX (R=1):=jH (by rw[E.out];simp);exact DZ
 |true=>
  go_wp2_with fail;refine(aR _ (hg.symm▸HB2.out)).mono ?_;rintro e w3 ⟨rfl,ai⟩;have aH:jX (jS (g+2) w1 w3):=jH (I.trans (ai.mono (by have:=I.size;omega)));have aI:jX (jS g w w3):=jH (HB2.trans (ai.mono (by have:=I.size;omega)));clear ai t0 Y aa t3 ae af ag;cases bC with
  |false=>
   have HE:jX (R=1):=jH (by rw[E.out];simp);go_wp2_with fail;go_returns;exact⟨by rw[HE.out];rfl,aI.out⟩
  |true=>
   have HE:jX (R=if aW=true then 0 else 12):=jH (by rw[E.out];simp);have aT:=jH (M5 w3);obtain⟨bm,Ut⟩:=nV w3.heap.size;rw[Ut]at aT;have bM:g+2<=bm:=by rw[<-Ut];have:=aH.size;omega
   clear E;go_wp2_with fail;refine aT.mono ?_;rintro e w4 ⟨rfl,aJ,J⟩;have aK:jX (∀b4 aU aj,w4.heap.size=b4->w4.alloc (nH #[.map (U bm)] Ur)=aU->aU.alloc (nH #[.func (.func 197) #[] #[nA (U (Z b4 0 V)),nA (U (Z (b4+1) 0 V))]] 108)=aj->FtE b4 (b4+1) bm aj/\jS (g+2) w1 aj/\jS g w aj):=jH λb4 aU aj bD bE bF=>by
    subst bD bE bF;have a1:=(jT w4.heap.size w4).alloc (jK _) (nH #[.map (U bm)] Ur);have a2:=a1.alloc nS (nH #[.func (.func 197) #[] #[nA (U (Z w4.heap.size 0 V)),nA (U (Z (w4.heap.size+1) 0 V))]] 108);have n1:=(nP.new w4 #[.map (U bm)] Ur).alloc (nH #[.func (.func 197) #[] #[nA (U (Z w4.heap.size 0 V)),nA (U (Z (w4.heap.size+1) 0 V))]] 108);have n2:=nP.new (w4.alloc (nH #[.map (U bm)] Ur)) #[.func (.func 197) #[] #[nA (U (Z w4.heap.size 0 V)),nA (U (Z (w4.heap.size+1) 0 V))]] 108;have bG:(w4.alloc (nH #[.map (U bm)] Ur)).heap.size=w4.heap.size+1:=nS;rw[bG]at n2;have bN:bm<=w4.heap.size:=by rw[<-Ut];exact J.size
    exact⟨⟨n1,aJ.below a2,n2⟩,(aH.trans (J.mono nL)).trans (a2.mono nL),(aI.trans (J.mono nL)).trans (a2.mono nL)⟩
   clear aJ J aT;go_upto_region 6 with fail;obtain⟨ak,aL,au⟩:=aK.out w4.heap.size _ _ rfl rfl rfl;generalize (w4.alloc _).alloc _=bH at*;clear aK;have bO:=ak.f.c0;obtain⟨⟨t0,Y,aa,t3⟩,ae,af,ag⟩:=aS.out _ aL;have aX:=jH (O trivial trivial bH _ _ _ (hg.symm▸au) ak);have aM:=jH au;clear aS O ak aL au;go_wp2_with fail;refine aX.mono ?_;rintro e bI ⟨rfl,aN⟩;have aO:jX (jS g w bI):=jH (aM.trans (aN.mono (by have:=aM.size;omega)));clear aN aX;cases aW with
   |false=>
    go_wp2_with fail;go_returns;exact⟨by rw[HE.out];rfl,aO.out⟩
   |true=>
    go_wp2_with fail;go_returns;exact⟨by rw[HE.out];rfl,aO.out⟩
end
section
open Go.RowKit
def itC(x:Option (nM IL))(v:jP):Array jP:=match x with
 |none=>#[nz ⟨#[]⟩,nC false,ny V 0 0]
 |some y=>#[nz (txt y.lab),nC y.lab.list,v]
def AY(R:Except Nat (nM IL))(w:jJ)(e:Ending)(w':jJ):Prop:=match R with
 | .error er=>e=nG (nE #[nD #[nz ⟨#[]⟩,nC false,ny V 0 0],nk nI (er:Nat)])/\jS w.heap.size w w'
 | .ok x=>∃v,e=nG (nE #[nD #[nz (txt x.lab),nC x.lab.list,v],nk nI 0])/\nW w' (λc=>w.heap.size<=c) v x.sub/\jS w.heap.size w w'
abbrev FnG:ko:=121
structure Gv(g:Nat)(w:jJ)(t:TL)(tv:jP)(s:ByteArray)(deep most:Int)(x:Option (nM IL))(W:jJ):Prop where
 t:nP W g #[nk nI t.kind,nk nI t.size,tv,nk nI t.tail] 63
 s:nP W (g+1) #[nz s] 9
 d:nP W (g+2) #[nk nI deep] 3
 m:nP W (g+3) #[nk nI most] 3
 r:nP W (g+4) #[nz ⟨#[]⟩,nC false,ny V 0 0] IT
 o:∃v,nP W (g+5) (itC x v) IT/\(∀y,x=U y->nW W (λc=>g+7<=c) v y.sub)
 f:nP W (g+6) #[.func (.func 162) #[] #[nA (U (Z g 0 V))],
  .func (.func 164) #[] #[nA (U (Z (g+1) 0 V)),nA (U (Z (g+2) 0 V)),nA (U (Z (g+3) 0 V)),nA (U (Z (g+5) 0 V))],
  .func (.func 166) #[] #[nA (U (Z g 0 V)),nA (U (Z (g+5) 0 V))]] FnG
 b:jS g w W
section
variable {g:Nat}{w W W':jJ}{t:TL}{tv:jP}{s:ByteArray}{deep most:Int}{x:Option (nM IL)}
theorem Gv.below(h:Gv g w t tv s deep most x W)(hb:jS W.heap.size W W'):Gv g w t tv s deep most x W':=
 ⟨Below.blk hb h.t h.t.lt,Below.blk hb h.s h.s.lt,Below.blk hb h.d h.d.lt,Below.blk hb h.m h.m.lt,Below.blk hb h.r h.r.lt, (let ⟨v,h1,h2⟩:=h.o;⟨v,Below.blk hb h1 h1.lt,λy A=>Shape.nX.below (h2 y A) hb⟩),Below.blk hb h.f h.f.lt,h.b.trans (hb.mono (by have:=h.t.lt;omega))⟩
end
theorem RL(h:p:=by
 go_wp2_with fail;refine CF.mono ?_;rintro e w2 ⟨rfl,hb⟩;have H2:=jH (H.below hb);clear hb;go_wp2_with fail;go_returns;exact⟨rfl,H2.out⟩):p:=h
theorem a3N(t:nM TL)(w:jJ)(tv:jP)(A:oQ w tv t.sub)(C:pW w)(s:ByteArray)(deep most:Int)(x:Option (nM IL))(W:jJ)(h:Gv w.heap.size w t.lab tv s deep most x W):
  jV jI 162 #[nA (U (Z w.heap.size 0 V))] W λe w'=>e=nG (nk nI (if p9 t=true then 0 else 1))/\Gv w.heap.size w t.lab tv s deep most x w':=by
 have CF:=jH (CE t W tv (Shape.nX.below A h.b) (C.below h.b C.lt));have H:=jH h;obtain⟨t0,E,I,t3⟩:=h.t.a4;clear h A C;generalize p9 t=R at*;generalize w.heap.size=g at*;go_in;cases R with
 |false=>
  exact RL
 |true=>
  exact RL
def got(R:Except Nat (nM IL)):Option (nM IL):=match R with
 | .error _=>V
 | .ok x=>U x
def EX(R:Except Nat (nM IL)):Int:=match R with
 | .error er=>(er:Nat)
 | .ok _=>0
theorem RN{g:Nat}{w W:jJ}{t:TL}{tv:jP}{s:ByteArray}{deep most:Int}{C:Option (nM IL)}(h:Gv g w t tv s deep most C W)(x:Option (nM IL))(v:jP)(E:∀y,x=U y->nW W (λc=>g+7<=c) v y.sub)(a b c:jP)(he:itC x v=#[a,b,c]):
  Gv g w t tv s deep most x (((W.setCell (Z (g+5) 0 V) a).setCell (Z (g+5) 1 V) b).setCell (Z (g+5) 2 V) c):=by
 obtain⟨v0,h1,h2⟩:=h.o;have o:∀{n:Nat}{cs:Array jP}{t:ko},nP W n cs t->n≠g+5->nP (((W.setCell (Z (g+5) 0 V) a).setCell (Z (g+5) 1 V) b).setCell (Z (g+5) 2 V) c) n cs t:=λh hn=>
  ((h.setOther (a:=(Z (g+5) 0 V)) hn _).setOther (a:=(Z (g+5) 1 V)) hn _).setOther (a:=(Z (g+5) 2 V)) hn _
 have hk:∃a0 b0 c0,itC C v0=#[a0,b0,c0]:=by cases C<;>exact⟨_,_,_,rfl⟩
 obtain⟨a0,b0,c0,hk⟩:=hk;rw[hk]at h1
 refine⟨o h.t nL,o h.s nL,o h.d nL,o h.m nL,o h.r nL,⟨v,?_,λy I=> ?_⟩,o h.f nL,
  ((h.b.setCell (p:=(Z (g+5) 0 V)) nS _).setCell (p:=(Z (g+5) 1 V)) nS _).setCell (p:=(Z (g+5) 2 V)) nS _⟩
 .rw[he];exact((h1.set 0 a).set 1 b).set 2 c
 .exact Shape.nX.keep (E y I) (by simp[kz]) (λA _ hc=>hc) λA _ hc=>by
   have J:g+7<=A:=hc;simp[kz,lu,show g+5≠A by omega,show¬g+5=A by omega]
theorem a3O(t:nM TL)(w:jJ)(tv:jP)(s:ByteArray)(deep most:Int)(R:Except Nat (nM IL))(O:∀W,jV jI 165 #[nz s,nk nI deep,nk nI most] W (AY R W))(W:jJ)(h:Gv w.heap.size w t.lab tv s deep most V W):
  jV jI 164 #[nA (U (Z (w.heap.size+1) 0 V)),nA (U (Z (w.heap.size+2) 0 V)),nA (U (Z (w.heap.size+3) 0 V)),nA (U (Z (w.heap.size+5) 0 V))] W
   λe w'=>e=nG (nk nI (EX R))/\Gv w.heap.size w t.lab tv s deep most (got R) w':=by
 have A:=jH (O W);have H:=jH h;have ag:=h.s.c0;have ah:=h.d.c0;have ai:=h.m.c0;clear h O;generalize w.heap.size=g at*;cases R with
 |error er=>
  unfold AY at A;dsimp only at A;unfold EX got;dsimp only;go_in;go_wp2_with fail;refine A.mono ?_;rintro e w2 ⟨rfl,hb⟩;have C:=jH (H.below hb);obtain⟨v0,hB,_⟩:=C.o;obtain⟨Q,Y,aa⟩:=hB.f3;have p0:=hB.cell 0;have E:=hB.cell 1;have I:=hB.cell 2;simp only[itC,jO,jN,jM]at p0 E I;clear hB hb;go_wp2_with fail;go_returns;exact⟨rfl,RN C V (ny V 0 0) (λy J=>by cases J) _ _ _ rfl⟩
 |ok x=>
  unfold AY at A;dsimp only at A;unfold EX got;dsimp only;go_in;go_wp2_with fail;refine A.mono ?_;rintro e w2 ⟨v,rfl,N,hb⟩;obtain⟨ov,cv,rfl,_,_⟩:=nW.slice N;have C:=jH (H.below hb);have ae:jX (nW w2 (λc=>g+7<=c) (ny ov x.sub.length cv) x.sub):=jH (Shape.nX.keep N (jK _) (λc _ hc=>by have:=H.f.lt;have af:W.heap.size<=c:=hc;show g+7<=c;omega) λc _ _=>rfl);obtain⟨v0,hB,_⟩:=C.o;obtain⟨Q,Y,aa⟩:=hB.f3;have p0:=hB.cell 0;have E:=hB.cell 1;have I:=hB.cell 2;simp only[itC,jO,jN,jM]at p0 E I;clear hB hb N;go_wp2_with fail;go_returns;exact⟨rfl,RN C (U x) _ (λy J=>by cases J;exact ae) _ _ _ rfl⟩
theorem a3P(t:nM TL)(x:nM IL)(w:jJ)(tv:jP)(A:oQ w tv t.sub)(C:x.lab.text.length<=j3)(J:pW w)(s:ByteArray)(deep most:Int)(W:jJ)(h:Gv w.heap.size w t.lab tv s deep most (U x) W):
  jV jI 166 #[nA (U (Z w.heap.size 0 V)),nA (U (Z (w.heap.size+5) 0 V))] W λe w'=>e=nG (nk nI (rC t x))/\Gv w.heap.size w t.lab tv s deep most (U x) w':=by
 obtain⟨v,hB,N⟩:=h.o;have I:=N x rfl;have O:=jH (BV t x W tv v (Shape.nX.below A h.b) (Shape.nX.keep I (jK _) (λc _ _=>trivial) λc _ _=>rfl) C (J.below h.b J.lt));have H:=jH h;have t0:=h.t.cell 0;have Q:=h.t.cell 1;have Y:=h.t.cell 2;have t3:=h.t.cell 3;have aa:=hB.cell 0;have ae:=hB.cell 1;have af:=hB.cell 2;simp only[itC,jO,jN,jM]at t0 Q Y t3 aa ae af;clear h A C J N I hB;generalize rC t x=E at*;generalize w.heap.size=g at*;go_in;go_wp2_with fail;refine O.mono ?_;rintro e w2 ⟨rfl,hb⟩;have ag:=jH (H.below hb);clear hb;go_wp2_with fail;go_returns;exact⟨rfl,ag.out⟩
theorem a3Q{w w1 w2 w3 w4 w5 A W:jJ}{t:nM TL}{tv:jP}{s:ByteArray}{deep most:Int}(e1:w.alloc (nH #[nk nI t.lab.kind,nk nI t.lab.size,tv,nk nI t.lab.tail] 63)=w1)(e2:w1.alloc (nH #[nz s] 9)=w2)(e3:w2.alloc (nH #[nk nI deep] 3)=w3)(e4:w3.alloc (nH #[nk nI most] 3)=w4)(e5:w4.alloc (nH #[nz ⟨#[]⟩,nC false,ny V 0 0] IT)=w5)(C:w5.alloc (nH #[nz ⟨#[]⟩,nC false,ny V 0 0] IT)=A)(Y:A.alloc (nH #[.func (.func 162) #[] #[nA (U (Z w.heap.size 0 V))],
  .func (.func 164) #[] #[nA (U (Z (w.heap.size+1) 0 V)),nA (U (Z (w.heap.size+2) 0 V)),nA (U (Z (w.heap.size+3) 0 V)),nA (U (Z (w.heap.size+5) 0 V))],
  .func (.func 166) #[] #[nA (U (Z w.heap.size 0 V)),nA (U (Z (w.heap.size+5) 0 V))]] FnG)=W):Gv w.heap.size w t.lab tv s deep most V W/\A.heap.size=w.heap.size+6:=by
 have aa:w1.heap.size=w.heap.size+1:=by rw[<-e1];simp
 have ae:w2.heap.size=w.heap.size+2:=by rw[<-e2];simp[aa]
 have z3:w3.heap.size=w.heap.size+3:=by rw[<-e3];simp[ae]
 have z4:w4.heap.size=w.heap.size+4:=by rw[<-e4];simp[z3]
 have z5:w5.heap.size=w.heap.size+5:=by rw[<-e5];simp[z4]
 have af:A.heap.size=w.heap.size+6:=by rw[<-C];simp[z5]
 have b1:jS w.heap.size w w1:=by rw[<-e1];exact(jT _ _).alloc (jK _) _
 have ai:jS w1.heap.size w1 w2:=by rw[<-e2];exact(jT _ _).alloc (jK _) _
 have b3:jS w2.heap.size w2 w3:=by rw[<-e3];exact(jT _ _).alloc (jK _) _
 have b4:jS w3.heap.size w3 w4:=by rw[<-e4];exact(jT _ _).alloc (jK _) _
 have aj:jS w4.heap.size w4 w5:=by rw[<-e5];exact(jT _ _).alloc (jK _) _
 have b6:jS w5.heap.size w5 A:=by rw[<-C];exact(jT _ _).alloc (jK _) _
 have ag:jS A.heap.size A W:=by rw[<-Y];exact(jT _ _).alloc (jK _) _
 have E:=nP.new w #[nk nI t.lab.kind,nk nI t.lab.size,tv,nk nI t.lab.tail] 63;have I:=nP.new w1 #[nz s] 9;have J:=nP.new w2 #[nk nI deep] 3;have N:=nP.new w3 #[nk nI most] 3;have O:=nP.new w4 #[nz ⟨#[]⟩,nC false,ny V 0 0] IT;have Q:=nP.new w5 #[nz ⟨#[]⟩,nC false,ny V 0 0] IT
 have ah:=nP.new A #[.func (.func 162) #[] #[nA (U (Z w.heap.size 0 V))],
  .func (.func 164) #[] #[nA (U (Z (w.heap.size+1) 0 V)),nA (U (Z (w.heap.size+2) 0 V)),nA (U (Z (w.heap.size+3) 0 V)),nA (U (Z (w.heap.size+5) 0 V))],
  .func (.func 166) #[] #[nA (U (Z w.heap.size 0 V)),nA (U (Z (w.heap.size+5) 0 V))]] FnG
 rw[e1]at E;rw[e2,aa]at I;rw[e3,ae]at J;rw[e4,z3]at N;rw[e5,z4]at O;rw[C,z5]at Q;rw[Y,af]at ah;have c6:jS w5.heap.size w5 W:=b6.trans (ag.mono nL);have c5:jS w4.heap.size w4 W:=aj.trans (c6.mono nL);have c4:jS w3.heap.size w3 W:=b4.trans (c5.mono nL);have c3:jS w2.heap.size w2 W:=b3.trans (c4.mono nL);have c2:jS w1.heap.size w1 W:=ai.trans (c3.mono nL);exact⟨⟨Below.blk c2 E E.lt,Below.blk c3 I I.lt,Below.blk c4 J J.lt,Below.blk c5 N N.lt,Below.blk c6 O O.lt,⟨ny V 0 0,Below.blk ag Q Q.lt,λy ak=>by cases ak⟩,ah,b1.trans (c2.mono nL)⟩,af⟩
def pM(w:jJ)(g:Nat)(a b c:jP):jJ:=((w.setCell (Z g 0 V) a).setCell (Z g 1 V) b).setCell (Z g 2 V) c
theorem qb(w:jJ)(g:Nat)(a b c:jP):((w.setCell (Z g 0 V) a).setCell (Z g 1 V) b).setCell (Z g 2 V) c=pM w g a b c:=rfl
theorem RO{g:Nat}{w W:jJ}{t:TL}{tv:jP}{s:ByteArray}{deep most:Int}{x:Option (nM IL)}(h:Gv g w t tv s deep most x W)(a b c:jP):
  nP (pM W (g+4) a b c) (g+4) #[a,b,c] IT/\jS g w (pM W (g+4) a b c)/\∀v (y:nM IL),nW W (λc=>g+7<=c) v y.sub->nW (pM W (g+4) a b c) (λc=>g<=c) v y.sub:=by
 refine⟨((h.r.set 0 a).set 1 b).set 2 c,((h.b.setCell (p:=(Z (g+4) 0 V)) nS _).setCell (p:=(Z (g+4) 1 V)) nS _).setCell (p:=(Z (g+4) 2 V)) nS _,λv y E=> ?_⟩;exact Shape.nX.keep E (by simp[pM,kz]) (λA _ hc=>by have C:g+7<=A:=hc;show g<=A;omega) λA _ hc=>by
   have C:g+7<=A:=hc;simp[pM,kz,lu,show g+4≠A by omega,show¬g+4=A by omega]
def Bi(t:nM TL)(R:Except Nat (nM IL)):Except Nat (nM IL):=if p9 t=true then match R with
 | .error er=> .error er
 | .ok x=>if rC t x=0 then .ok x else .error (rC t x).toNat
 else .error 1
def a0Z(t:nM TL)(R:Except Nat (nM IL)):Int:=match R with
 | .error _=>0
 | .ok x=>rC t x
theorem CU(t:nM TL)(x:nM IL):0<=rC t x:=by
 unfold rC;split;.split<;>omega
 .omega
theorem M8(t:nM TL)(R:Except Nat (nM IL))(I:∀er,R=.error er->1<=er)(E:Int)(A:E=(if(if p9 t=true then(0:Int)else 1)≠0 then(if p9 t=true then 0 else 1)else if EX R≠0 then EX R else a0Z t R)):
  (∃er:Nat,E=er/\E≠0/\Bi t R=.error er)\/(∃x,E=0/\R=.ok x/\Bi t R=.ok x/\(if(if p9 t=true then(0:Int)else 1)≠0 then 1 else if EX R≠0 then 2 else 3)=3):=by
 unfold Bi;by_cases C:p9 t=true
 .simp only[C,if_true]at A⊢
  rw[if_neg nO]at A;cases R with
  |error er=>
   have h1:=I er rfl;have h2:EX (.error er:Except Nat (nM IL))=(er:Int):=rfl;rw[h2,if_pos nL]at A;exact .inl ⟨er,A,nL,rfl⟩
  |ok x=>
   have h2:EX (.ok x:Except Nat (nM IL))=0:=rfl;have J:a0Z t (.ok x)=rC t x:=rfl;have N:=CU t x;rw[h2,J,if_neg nO]at A;by_cases h0:rC t x=0
   .refine .inr ⟨x,nL,rfl,?_,?_⟩
    .simp only[h0,if_true]
    .rw[h2];rfl
   .refine .inl ⟨(rC t x).toNat,nL,nL,?_⟩
    simp only[h0,if_false]
 .simp only[C]at A⊢
  exact .inl ⟨1,by rw[A];rfl,by rw[A];simp,rfl⟩
theorem Xh(t:nM TL)(R:Except Nat (nM IL))(ae:∀er,R=.error er->1<=er)(w:jJ)(tv:jP)(J:oQ w tv t.sub)(Y:∀x,R=.ok x->x.lab.text.length<=j3)(af:pW w)(s:ByteArray)(deep most:Int)(au:∀W,jV jI 165 #[nz s,nk nI deep,nk nI most] W (AY R W)):
  jV jI 117 #[nD #[nk nI t.lab.kind,nk nI t.lab.size,tv,nk nI t.lab.tail],nz s,nk nI deep,nk nI most] w (AY (Bi t R) w):=by
 have aP:∀(fn:Fn)(first cap:Array jP)(w:jJ),(mJ fn first cap).run jI w=.ok (.func fn first cap) w:=λ_ _ _ _=>rfl
 have av:jX (∀I W,((((((w.alloc (nH #[nk nI t.lab.kind,nk nI t.lab.size,tv,nk nI t.lab.tail] 63)).alloc (nH #[nz s] 9)).alloc (nH #[nk nI deep] 3)).alloc (nH #[nk nI most] 3)).alloc (nH #[nz ⟨#[]⟩,nC false,ny V 0 0] IT)).alloc (nH #[nz ⟨#[]⟩,nC false,ny V 0 0] IT))=I->I.alloc (nH #[.func (.func 162) #[] #[nA (U (Z w.heap.size 0 V))],
  .func (.func 164) #[] #[nA (U (Z (w.heap.size+1) 0 V)),nA (U (Z (w.heap.size+2) 0 V)),nA (U (Z (w.heap.size+3) 0 V)),nA (U (Z (w.heap.size+5) 0 V))],
  .func (.func 166) #[] #[nA (U (Z w.heap.size 0 V)),nA (U (Z (w.heap.size+5) 0 V))]] FnG)=W->I.heap.size=w.heap.size+6/\jV jI 155 #[ny (U (Z I.heap.size 0 V)) 3 3] W λe ag=>∃E:Int,e=nG (nk nI E)/\
   ((∃er:Nat,E=er/\E≠0/\Bi t R=.error er/\∃q,Gv w.heap.size w t.lab tv s deep most q ag)\/(∃x,E=0/\Bi t R=.ok x/\Gv w.heap.size w t.lab tv s deep most (U x) ag))):=jH λI W aF aG=>by
  obtain⟨hI,O⟩:=a3Q (t:=t) (tv:=tv) (s:=s) (deep:=deep) (most:=most) rfl rfl rfl rfl rfl aF aG;refine⟨O,?_⟩;rw[O];obtain⟨C,ax,ay,az,aA⟩:∃C:Nat->Option (nM IL),C 0=V/\C 1=V/\C 2=got R/\C 3=got R:=⟨λk=>if k<2 then V else got R,if_pos nO,if_pos nO,if_neg nO,if_neg nO⟩;have aH:∀W,Gv w.heap.size w t.lab tv s deep most (C 0) W->jV jI 162 #[nA (U (Z w.heap.size 0 V))] W λe w'=>e=nG (nk nI (if p9 t=true then 0 else 1))/\Gv w.heap.size w t.lab tv s deep most (C 1) w':=λW h=>by
   rw[ax]at h;rw[ay];exact a3N t w tv J af s deep most _ W h
  have aI:∀W,Gv w.heap.size w t.lab tv s deep most (C 1) W->jV jI 164 #[nA (U (Z (w.heap.size+1) 0 V)),nA (U (Z (w.heap.size+2) 0 V)),nA (U (Z (w.heap.size+3) 0 V)),nA (U (Z (w.heap.size+5) 0 V))] W λe w'=>e=nG (nk nI (EX R))/\Gv w.heap.size w t.lab tv s deep most (C 2) w':=λW h=>by
   rw[ay]at h;rw[az];exact a3O t w tv s deep most R au W h
  have aJ:EX R=0->∀W,Gv w.heap.size w t.lab tv s deep most (C 2) W->jV jI 166 #[nA (U (Z w.heap.size 0 V)),nA (U (Z (w.heap.size+5) 0 V))] W λe w'=>e=nG (nk nI (a0Z t R))/\Gv w.heap.size w t.lab tv s deep most (C 3) w':=λhg W h=>by
   rw[az]at h;rw[aA];cases R with
   |error er=>have h1:=ae er rfl;have h2:EX (.error er:Except Nat (nM IL))=(er:Int):=rfl;omega
   |ok x=>exact a3P t x w tv J (Y x rfl) af s deep most W h
  rw[<-ax]at hI;refine(MX W _ _ _ (w.heap.size+6) FnG (if p9 t=true then 0 else 1) (EX R) (a0Z t R) (λk W=>Gv w.heap.size w t.lab tv s deep most (C k) W) (λk W h=>Gv.f h) hI aH (λ_=>aI) (λ_ h=>aJ h)).mono ?_;rintro e ag ⟨rfl,A⟩;refine⟨_,rfl,?_⟩;rcases M8 t R ae _ rfl with⟨er,h1,h2,ah⟩|⟨x,h1,h2,ah,aK⟩
  .exact .inl ⟨er,h1,h2,ah,_,A⟩
  .rw[aK,aA,h2]at A
   exact .inr ⟨x,h1,ah,A⟩
 obtain⟨ot,ct,rfl,_,_⟩:=J.slice;generalize Bi t R=aQ at*;clear ae J Y af au;go_in;go_upto_region 2 with fail;generalize aa:World.alloc (World.alloc _ _) _=I;obtain⟨O,hcall⟩:=av.out I _ aa rfl;rw[O]at hcall;have ai:=jH hcall;clear hcall av aa;rw[show w.heap.size+1+1+1+1+1=w.heap.size+5 from rfl,show w.heap.size+1+1+1+1=w.heap.size+4 from rfl,show w.heap.size+1+1+1=w.heap.size+3 from rfl,show w.heap.size+1+1=w.heap.size+2 from rfl];go_wp2_with fail;refine ai.mono ?_;rintro e aR ⟨E,rfl,⟨er,rfl,he,rfl,q,A⟩|⟨x,rfl,rfl,A⟩⟩
 .have aS:((er:Int) !=0)=true:=by simpa using he
  have H:=jH A;have z0:=A.r.free 0;have aL:=A.r.free 1;have aM:=A.r.free 2;have aB:=A.r.c0;have aC:=A.r.c1;have y2:=A.r.c2;clear A he ai;go_wp2_with fail;rw[qb];obtain⟨hB,hb,_⟩:=RO H (nz ⟨#[]⟩) (nC false) (ny V 0 0);obtain⟨aj,ak,d2⟩:=hB.a3;refine jZ (v:=nE #[nD #[nz ⟨#[]⟩,nC false,ny V 0 0],nk nI (er:Nat)]) (by simp[kQ,Tryz.results117,go_sem,aj,ak,d2]) rfl ⟨rfl,hb⟩
 .have H:=jH A
  obtain⟨v,Q,aD⟩:=A.o;have N:=aD x rfl;obtain⟨ov,cv,rfl,_,_⟩:=nW.slice N;have aN:=jH N;obtain⟨z0,aL,aM⟩:=A.r.f3;have aB:=A.r.cell 0;have aC:=A.r.cell 1;have y2:=A.r.cell 2;have aO:=Q.cell 0;have x1:=Q.cell 1;have x2:=Q.cell 2;simp only[itC,jO,jN,jM]at aB aC y2 aO x1 x2;clear A Q aD N ai;go_wp2_with fail;rw[qb];obtain⟨hB,hb,hk⟩:=RO H (nz (txt x.lab)) (nC x.lab.list) (ny ov x.sub.length cv);obtain⟨aj,ak,d2⟩:=hB.a3;refine jZ (v:=nE #[nD #[nz (txt x.lab),nC x.lab.list,ny ov x.sub.length cv],nk nI 0]) (by simp[kQ,Tryz.results117,go_sem,aj,ak,d2]) rfl ⟨_,rfl,hk _ _ aN.out,hb⟩
end
section
def qF(n:Nat):Nat:=if n<253 then n else if n<65536 then 253 else if n<4294967296 then 254 else 255
def o5(b:Nat):Nat:=if b<253 then 0 else if b=253 then 2 else if b=254 then 4 else 8
def wm(n:Nat):List UInt8:=kg (qF n)::vX (o5 (qF n)) n
def ru:List UInt8->Nat×Nat×Nat
 |[]=>(0,0,2)
 |b::r=>if b.toNat<253 then(b.toNat,1,0)else
  if r.length<o5 b.toNat then(0,0,2)else
  if qF (qm (r.take (o5 b.toNat)))≠b.toNat then(0,0,3)else(qm (r.take (o5 b.toNat)),1+o5 b.toNat,0)
theorem Xi(n:Nat):qF n<256:=by unfold qF;(repeat' split)<;>omega
theorem wQ(b:Nat):o5 b<=8:=by unfold o5;(repeat' split)<;>omega
theorem a6h(n:Nat)(h:n<18446744073709551616)(c:253<=n):n<256^o5 (qF n):=by
 unfold qF o5;repeat' split
 all_goals first|omega|(simp;omega)
theorem Xj(n:Nat):(wm n).length=1+o5 (qF n):=by unfold wm;simp;omega
theorem RP(n:Nat):(wm n).length<=9:=by rw[Xj];have:=wQ (qF n);omega
theorem Gw(n:Nat)(h:n<253):qF n=n:=by unfold qF;rw[if_pos h]
theorem Xk(n:Nat)(h:253<=n):253<=qF n:=by unfold qF;(repeat' split)<;>omega
theorem PW(n:Nat)(h:n<253):o5 n=0:=by unfold o5;rw[if_pos h]
theorem RQ(n:Nat)(h:n<253):wm n=[kg n]:=by unfold wm;rw[Gw n h,PW n h];rfl
theorem Xl{l:List UInt8}{N K:Nat}(h:ru l=(N,K,0)):K<=l.length/\N<18446744073709551616/\wm N=l.take K/\K<=9:=by
 cases l with
 |nil=>simp[ru]at h
 |cons b r=>
  rw[ru]at h;have hb:=b.toNat_lt;split at h
  .rename_i c
   simp only[Prod.mk.injEq,and_true]at h;obtain⟨rfl,rfl⟩:=h;refine⟨nS,nL,?_,nL⟩;rw[RQ _ c];simp
  .split at h
   .simp at h
   .split at h
    .simp at h
    .rename_i c1 c2 c3
     simp only[Prod.mk.injEq,and_true]at h;obtain⟨rfl,rfl⟩:=h;have hl:(r.take (o5 b.toNat)).length=o5 b.toNat:=by rw[mi];omega
     have A:=uz (r.take (o5 b.toNat));have C:=wQ b.toNat;rw[hl]at A;have E:qF (qm (r.take (o5 b.toNat)))=b.toNat:=by simpa using c3
     refine⟨nT,kG A (jY (lg nO C) nO),?_,nL⟩;have e:=LZ (r.take (o5 b.toNat));rw[hl]at e;unfold wm;rw[E,e,u8e (b:=b) rfl,Nat.add_comm 1,ky]
theorem PX(l:List UInt8):ru (l.take 9)=ru l:=by
 cases l with
 |nil=>rfl
 |cons b r=>
  have A:=wQ b.toNat;rw[ky,ru,ru,List.take_take,Nat.min_eq_left A,mi];by_cases h2:r.length<o5 b.toNat;.rw[if_pos (show min 8 r.length<_ by omega),if_pos h2]
  .rw[if_neg (show¬min 8 r.length<_ by omega),if_neg h2]
end
section
open Go.RowKit
def n3(t:Nat×Nat×Nat):jP:=nE #[nk nJ t.1,nk nI t.2.1,nk nI t.2.2]
structure uV(w:jJ):Prop where
 a:w.cell? (Z 0 0 V)=U (nk nI 2)
 b:w.cell? (Z 0 1 V)=U (nk nI 4)
 c:w.cell? (Z 0 2 V)=U (nk nI 8)
theorem uV.at_{w:jJ}(h:uV w)(b:Nat)(h1:253<=b)(h2:b<256):w.cell? (Z 0 (b - 253) V)=U (nk nI (o5 b)):=by
 rcases(show b=253\/b=254\/b=255 by omega)with rfl|rfl|rfl
 .exact h.a
 .exact h.b
 .exact h.c
theorem uV.below{w w':jJ}{B:Nat}(h:uV w)(hb:jS B w w')(hB:0<B):uV w':=
 ⟨(hb.cell (p:=(Z _ 0 V)) hB).trans h.a,(hb.cell (p:=(Z _ 1 V)) hB).trans h.b,(hb.cell (p:=(Z _ 2 V)) hB).trans h.c⟩
theorem uV.lt{w:jJ}(h:uV w):0<w.heap.size:=by
 rcases kZ 0 w.heap.size with A|A
 .exact A
 .have:=h.a
  simp[mI,mZ A]at this
theorem Gx(n:Nat)(w:jJ)(hn:n<18446744073709551616):
  jV jI 245 #[nk nJ n] w λe w'=>e=nG (nk .u8 (qF n))/\w=w':=by
 by_cases h1:n<253
 .have e:=jH (Gw n h1)
  go_in;go_wp2_with fail;go_returns;exact⟨by rw[e.out];exact congrArg lJ (congrArg (lQ .u8) nL),rfl⟩
 .have C:decide ((n:Int)<253)=false:=nT
  by_cases h2:n<65536
  .have e:jX (qF n=253):=by unfold jX qF;rw[if_neg h1,if_pos h2]
   have g2:decide ((n:Int)<65536)=true:=nT;clear h1 h2 hn;go_in;exact xP
  .have g2:decide ((n:Int)<65536)=false:=nT
   by_cases A:n<4294967296
   .have e:jX (qF n=254):=by unfold jX qF;rw[if_neg h1,if_neg h2,if_pos A]
    have g3:decide ((n:Int)<4294967296)=true:=nT;clear h1 h2 A hn;go_in;exact xP
   .have g3:decide ((n:Int)<4294967296)=false:=nT
    have e:jX (qF n=255):=by unfold jX qF;rw[if_neg h1,if_neg h2,if_neg A]
    clear h1 h2 A hn;go_in;exact xP
theorem M9(n:Nat)(w:jJ)(hn:n<18446744073709551616)(A:uV w):
  jV jI 208 #[nk nJ n] w λe w'=>e=nG (nz ⟨(wm n).toArray⟩)/\jS w.heap.size w w':=by
 have c1:=jH (Gx n w hn);have hlt:=Xi n;by_cases h1:n<253
 .have e:=jH (RQ n h1)
  have e2:=Gw n h1;rw[e2]at c1;clear hlt e2;have hst:=λw=>FN Ch w [kg n] #[nk .u8 n] 1 rfl (xW rfl nL) nO
  go_in;go_wp2_with fail;refine c1.mono ?_;rintro e w' ⟨rfl,rfl⟩;go_wp2_with fail;go_returns;exact⟨by rw[e.out];rfl,(jT _ _).alloc (jK _) _⟩
 .have C:=Xk n nL
  have Q:=uV.at_ A (qF n) C hlt;have hk:=wQ (qF n);have E:1<=o5 (qF n):=by unfold o5;rw[if_neg nL];(repeat' split)<;>omega
  have c2:=jH (λw=>uS n (o5 (qF n)) w hn E hk (a6h n hn nL));have e:jX (wm n=kg (qF n)::vX (o5 (qF n)) n):=rfl;have hlen:=qG (o5 (qF n)) n;generalize vX (o5 (qF n)) n=tl at*;generalize o5 (qF n)=k at*;generalize qF n=hd at*;have hsz:(⟨tl.toArray⟩:ByteArray).size=k:=by rw[size_mk];exact hlen
  generalize htl:(⟨tl.toArray⟩:ByteArray)=TL at*;have J:=jH htl;have N:TL.size<=8:=nL;have Y:=uV.lt A;clear htl hlen hsz A;have hst:=λw=>FN Ch w [kg hd] #[nk .u8 hd] 1 rfl (xW rfl nL) nO
  have O:(0:Int)<=(hd:Int) - 253:=nL;have I:(hd:Int) - 253<3:=nL;go_in;go_wp2_with fail;refine c1.mono ?_;rintro e w' ⟨rfl,rfl⟩;go_wp2_with fail;refine(c2 _).mono ?_;rintro e w1 ⟨rfl,hb⟩;go_wp2_with fail;go_returns;exact⟨by rw[e.out,<-J.out];exact congrArg (λb:ByteArray=>lJ (Value.string b)) (Uq nS),((jT _ _).alloc (jK _) _).trans (hb.mono nS)⟩
theorem toList_cons(s:ByteArray)(h:0<s.size):s.data.toList=s[0]::s.data.toList.drop 1:=by
 exact RJ
theorem Gy(s:ByteArray)(k:Nat):(s.extract 1 (1+k)).data.toList=(s.data.toList.drop 1).take k:=by
 rw[Lib.extract_data,show 1+k - 1=k by omega]
theorem PY(s:ByteArray)(h:0<s.size):s.toList.isEmpty=false:=by
 rw[Lib.toList_data,toList_cons s h];rfl
theorem Xm(s:ByteArray)(h:0<s.size)(h1:s[0].toNat<253):ru s.data.toList=(s[0].toNat,1,0):=by
 rw[toList_cons s h,ru,if_pos h1]
theorem Xn(s:ByteArray)(h:0<s.size)(h1:253<=s[0].toNat)(h2:s.size<1+o5 s[0].toNat):ru s.data.toList=(0,0,2):=by
 rw[toList_cons s h,ru,if_neg nL,if_pos (by rw[kX];simp;omega)]
theorem Xo(s:ByteArray)(h:0<s.size)(h1:253<=s[0].toNat)(h2:1+o5 s[0].toNat<=s.size)(A:qF (qm (s.extract 1 (1+o5 s[0].toNat)).data.toList)≠s[0].toNat):ru s.data.toList=(0,0,3):=by
 rw[Gy]at A;rw[toList_cons s h,ru,if_neg nL,if_neg (by rw[kX];simp;omega),if_pos A]
theorem Xp(s:ByteArray)(h:0<s.size)(h1:253<=s[0].toNat)(h2:1+o5 s[0].toNat<=s.size)(A:qF (qm (s.extract 1 (1+o5 s[0].toNat)).data.toList)=s[0].toNat):ru s.data.toList=(qm (s.extract 1 (1+o5 s[0].toNat)).data.toList,1+o5 s[0].toNat,0):=by
 rw[Gy]at A⊢;rw[toList_cons s h];show ru (s[0]::s.data.toList.drop 1)=_;rw[ru,if_neg nL,if_neg (by rw[kX];simp;omega),if_neg (λh=>h A)];rfl
theorem Uu(s:ByteArray)(w:jJ)(hs:s.size<=j3)(E:uV w):
  jV jI 246 #[nz s] w λe w'=>e=nG (n3 (ru s.data.toList))/\w=w':=by
 unfold j3 at hs;by_cases h0:s.size=0
 .have e:s=⟨#[]⟩:=Uq (mU.1 (by simpa using h0))
  subst e;exact BC
 .have hp:0<s.size:=nL
  have Q:=PY s hp;clear h0;have hb:s[0].toNat<=255:=by have:=s[0].toNat_lt;omega
  by_cases h1:s[0].toNat<253
  .have e:=jH (Xm s hp h1)
   go_in;exact xP
  .have A:253<=s[0].toNat:=nL
   have Y:=uV.at_ E s[0].toNat A nL;have hk:=wQ s[0].toNat;have aa:1<=o5 s[0].toNat:=by unfold o5;rw[if_neg nL];(repeat' split)<;>omega
   have e1:=jH (Xn s hp A);have e2:=jH (Xo s hp A);have e3:=jH (Xp s hp A);generalize o5 s[0].toNat=k at*;have ae:(0:Int)<=(s[0].toNat:Int) - 253:=nL;have af:(s[0].toNat:Int) - 253<3:=nL;have hd2:decide ((s[0].toNat:Int)<253)=false:=nT;clear h1 E;by_cases h2:s.size<1+k
   .have e:=jH (e1 h2)
    go_in;exact xP
   .have g2:1+k<=s.size:=nL
    have I:(s.extract 1 (1+k)).size=k:=by rw[kC];omega
    have c1:=λw=>sV (s.extract 1 (1+k)) w nL nL
    have hn:qm (s.extract 1 (1+k)).data.toList<18446744073709551616:=by
     have h:=uz (s.extract 1 (1+k)).data.toList;have hl:(s.extract 1 (1+k)).data.toList.length=k:=by rw[<-Lib.size_eq];exact I
     rw[hl]at h;exact kG h (Ma k hk)
    have c2:=λw=>Gx _ w hn
    generalize qm (s.extract 1 (1+k)).data.toList=n at*;have J:=jH c1;have N:=jH c2;clear c1 c2 I;generalize qF n=hd at*;by_cases C:hd=s[0].toNat
    .have e:=jH (e3 g2 C)
     have O:((hd:Int) !=(s[0].toNat:Int))=false:=by rw[bne_eq_false_iff_eq];omega
     clear h2 C e1 e2 e3;go_in;go_wp2_with fail;refine(J _).mono ?_;rintro e w' ⟨rfl,rfl⟩;go_wp2_with fail;refine(N _).mono ?_;rintro e w' ⟨rfl,rfl⟩;exact xP
    .have e:=jH (e2 g2 C)
     have O:((hd:Int) !=(s[0].toNat:Int))=true:=FL;clear h2 C e1 e2 e3;go_in;go_wp2_with fail;refine(J _).mono ?_;rintro e w' ⟨rfl,rfl⟩;go_wp2_with fail;refine(N _).mono ?_;rintro e w' ⟨rfl,rfl⟩;exact xP
def KD(t:Nat×Nat×Nat)(most:Nat):Nat:=if t.2.2=0/\most<t.1 then 5 else t.2.2
def RS.comp(r:RS)(most:Nat):RS×Nat:=
 if r.f=0 then
  (λt:Nat×Nat×Nat=>if KD t most=0 then((⟨r.t,r.p+t.2.1,0⟩:RS),t.1)else(⟨r.t,r.p,KD t most⟩,0)) (ru (r.t.data.toList.drop r.p))
 else(r,0)
theorem CV{t:ByteArray}{p n k:Nat}(h:ru (t.data.toList.drop p)=(n,k,0))(hp:p<=t.size):p+k<=t.size:=by
 have h1:=(Xl h).1;rw[kX]at h1;have:t.data.toList.length=t.size:=nS;omega
theorem RS.Ok.comp{r:RS}(h:r.Ok)(most:Nat):(r.comp most).1.Ok:=by
 obtain⟨h1,h2⟩:=h;unfold RS.comp;split
 .generalize ht:ru (r.t.data.toList.drop r.p)=t
  obtain⟨n,k,e⟩:=t;simp only[];split
  .rename_i C he
   have A:e=0:=by unfold KD at he;simp only at he;split at he<;>omega
   subst A;exact⟨CV ht h1,h2⟩
  .exact⟨h1,h2⟩
 .exact⟨h1,h2⟩
theorem Xq(r:RS)(most:Nat):(r.comp most).1.t=r.t:=by
 unfold RS.comp;split
 .generalize ru (r.t.data.toList.drop r.p)=t
  simp only[];split<;>rfl
 .rfl
theorem RU(h:p:=by
 have key:∀i,w'.cell? (Z 0 i V)=w.cell? (Z 0 i V):=λi=>by simp only[mI,hb]
 exact⟨(key 0).trans h.a,(key 1).trans h.b,(key 2).trans h.c⟩):p:=h
theorem uV.upd{w w':jJ}{b:Nat}(h:uV w)(u:pE b w w')(A:0≠b):uV w':=by
 have hb:=u.block 0 h.lt (by simpa using A);exact RU
theorem PZ(h:p:=by
 go_in;go_wp2_with fail;refine cf.mono ?_;rintro e w' ⟨rfl,rfl⟩;simp only[];go_wp2_with fail;refine ca.mono ?_;rintro e w2 ⟨rfl,u2,hb2⟩;have hT2:=jH (HT.upd u2 hG);go_wp2_with fail;refine(CN _ hT2).mono ?_;rintro e w' ⟨rfl,rfl⟩;go_wp2_with fail;refine(CX _ hb2).mono ?_;rintro e w3 ⟨rfl,u3,hb3⟩;go_wp2_with fail;go_returns;exact⟨rfl,u2.trans u3,hb3⟩):p:=h
theorem Uv(b:Nat)(r:RS)(most:Nat)(w:jJ)(Y:r.Ok)(hb:vW w b r)(aj:most<18446744073709551616)(E:uV w)(hG:0≠b):
  jV jI 210 #[nA (U (Z b 0 V)),nk nJ most] w (zx b w (r.comp most).1 (nk nJ (r.comp most).2)):=by
 obtain⟨t,p,f⟩:=r;obtain⟨h1,h2⟩:=Y;simp only at h1 h2;have cf:=jH (qd b ⟨t,p,f⟩ w hb);have HT:=jH E;clear E;by_cases J:f=0
 .subst J
  have ca:=jH (J2 b ⟨t,p,0⟩ 9 w ⟨h1,h2⟩ hb);have O:RS.ahead ⟨t,p,0⟩ 9=t.extract p (p+min 9 (t.size - p)):=by unfold RS.ahead;rw[if_pos rfl,if_pos nO];rfl
  have N:=λw E=>Uu (t.extract p (p+min 9 (t.size - p))) w (by unfold j3;rw[kC];omega) E
  have en:ru (t.extract p (p+min 9 (t.size - p))).data.toList=ru (t.data.toList.drop p):=by
   rw[Lib.extract_data,<-PX (t.data.toList.drop p)];congr 1;rw[show p+min 9 (t.size - p) - p=min 9 (t.size - p)by omega];by_cases Q:9<=t.size - p;.rw[Nat.min_eq_left Q]
   .have hl:(t.data.toList.drop p).length<=t.size - p:=by rw[kX];simp
    rw[Nat.min_eq_right nL,List.take_of_length_le hl,List.take_of_length_le nL]
  rw[en]at N;rw[O]at ca;generalize t.extract p (p+min 9 (t.size - p))=x at*;have A:∀T,ru (t.data.toList.drop p)=T->RS.comp ⟨t,p,0⟩ most=if KD T most=0 then((⟨t,p+T.2.1,0⟩:RS),T.1)else(⟨t,p,KD T most⟩,0):=by
   intro T E;unfold RS.comp;rw[if_pos rfl,E]
  have hsz:=λn k (h:ru (t.data.toList.drop p)=(n,k,0))=>CV h h1
  generalize ru (t.data.toList.drop p)=T at*;have A:=A T rfl;obtain⟨n,k,e⟩:=T;clear O en;have CN:jX (∀w,uV w->jV jI 246 #[nz x] w λaa w'=>aa=nG (nE #[nk nJ n,nk nI k,nk nI e])/\w=w'):=N;clear N;by_cases he:e=0
  .subst he
   have af:=hsz n k rfl;clear hsz;by_cases I:most<n
   .have e5:KD (n,k,0) most=5:=if_pos ⟨rfl,I⟩
    rw[e5,if_neg nO]at A;rw[A];have C:=λw h=>tZ b ⟨t,p,0⟩ 5 w h
    rw[show RS.fail ⟨t,p,0⟩ 5=⟨t,p,5⟩from rfl]at C;have CX:=jH C;clear C A e5;exact PZ
   .have e5:KD (n,k,0) most=0:=if_neg (λh=>I h.2)
    rw[e5,if_pos rfl]at A;rw[A];have ae:decide (most<n)=false:=nT;have C:=λw h=>qj b ⟨t,p,0⟩ k w ⟨h1,h2⟩ h
    rw[show RS.take ⟨t,p,0⟩ k=(⟨t,p+k,0⟩,t.extract p (p+k))from by unfold RS.take;rw[if_pos rfl,if_neg nL,if_neg (by simp only[];omega)];rfl]at C;have CX:=jH C;clear C A e5 I;exact PZ
  .have e5:KD (n,k,e) most=e:=if_neg (λh=>he h.1)
   rw[e5,if_neg he]at A;rw[A];have ag:((e:Int)==0)=false:=wG;have ah:((e:Int) !=0)=true:=FL;have C:=λw h=>tZ b ⟨t,p,0⟩ e w h
   rw[show RS.fail ⟨t,p,0⟩ e=⟨t,p,e⟩from rfl]at C;have CX:=jH C;clear C A e5 he;exact PZ
 .have e:RS.comp ⟨t,p,f⟩ most=(⟨t,p,f⟩,0):=by unfold RS.comp;rw[if_neg J]
  rw[e];have ai:((f:Int) !=0)=true:=by rw[bne_iff_ne];exact J
  clear e J;go_in;go_wp2_with fail;refine cf.mono ?_;rintro e w' ⟨rfl,rfl⟩;simp only[];go_wp2_with fail;go_returns;exact⟨rfl,pE.refl b w,hb⟩
def yc(b:ByteArray):nM IL:=.node ⟨b.data.toList,false⟩ []
def Gz(b:ByteArray):Nat:=if 1<=b.size/\b.size<=8 then qm b.data.toList else 0
def KE(n:Nat):nM IL:=.node ⟨(BB n).reverse,false⟩ []
def Ji(s:List (nM IL)):nM IL:=.node ⟨[],true⟩ s
abbrev RdV:=nM IL×RS×Nat
def qI(f:nM TL->RS->Nat->RdV):List (nM TL×Bool)->RS->Nat->List (nM IL)×RS×Nat
 |[],r,l=>([],r,l)
 |t::ts,r,l=>if(t.2=true\/r.p<r.t.size)/\r.f=0 then
   ((f t.1 r l).1::(qI f ts (f t.1 r l).2.1 (f t.1 r l).2.2).1,(qI f ts (f t.1 r l).2.1 (f t.1 r l).2.2).2)else([],r,l)
def za(s:List (nM TL))(tail:Int):List (nM TL×Bool):=s.mapIdx λi t=>(t,decide ((i:Int)<s.length - tail))
def qf:Nat->nM TL->RS->Nat->RdV
 |0,_,r,l=>(yc ⟨#[]⟩,r.fail 4,l)
 |d+1,.node a s,r,l=>
  if l=0 then(yc ⟨#[]⟩,r.fail 4,0)
  else if a.kind=1 then(KE (Gz (r.take a.size).2),(r.take a.size).1,l - 1)
  else if a.kind=2 then(yc (r.take a.size).2,(r.take a.size).1,l - 1)
  else if a.kind=3 then(yc ((r.comp a.size.toNat).1.take (r.comp a.size.toNat).2).2,((r.comp a.size.toNat).1.take (r.comp a.size.toNat).2).1,l - 1)
  else if a.kind=4 then match s with
   |t::_=>(Ji (qI (qf d) (lh (r.comp a.size.toNat).2 (t,true)) (r.comp a.size.toNat).1 (l - 1)).1,(qI (qf d) (lh (r.comp a.size.toNat).2 (t,true)) (r.comp a.size.toNat).1 (l - 1)).2)
   |[]=>(yc ⟨#[]⟩,r.fail 4,l)
  else(Ji (qI (qf d) (za s a.tail) r (l - 1)).1,(qI (qf d) (za s a.tail) r (l - 1)).2)
structure RdK(r r':RS):Prop where
 t:r'.t=r.t
 f:r'.f=0->r.f=0
 ok:r.Ok->r'.Ok
theorem Xr(r:RS)(x:Int):RdK r (r.fail x):=by
 refine⟨?_,?_,λh=>h.fail x⟩;.unfold RS.fail;split<;>rfl
 .intro h;unfold RS.fail at h;split at h<;>assumption
theorem GA(r:RS)(n:Int):RdK r (r.take n).1:=by
 refine⟨?_,?_,λh=>h.take n⟩;.unfold RS.take;(repeat' split)<;>rfl
 .intro h
  unfold RS.take at h;split at h<;>assumption
theorem Jj{r:RS}{n:Nat}(h:(r.comp n).1.f=0):(r.comp n).2<=n:=by
 unfold RS.comp at h⊢;split at h
 .rename_i A
  rw[if_pos A];generalize ru (r.t.data.toList.drop r.p)=t at*;dsimp only at h⊢;split at h
  .rename_i h0
   rw[if_pos h0];unfold KD at h0;dsimp only;split at h0;.cases h0
   .rename_i h1
    omega
  .rename_i h0
   rw[if_neg h0];exact kH _
 .rename_i A
  exact absurd h A
theorem Jk:∀{s:List (nM α)}{x:nM α},x∈s->x.deep<=nM.o9 s
 |[],_,h=>by cases h
 |y::ys,x,h=>by
  simp only[nM.o9];rcases mM.1 h with rfl|h
  .omega
  .have:=Jk h;omega
theorem RV(b:ByteArray):Gz b<18446744073709551616:=by
 unfold Gz;split
 .rename_i h
  have h1:=uz b.data.toList;have h2:b.data.toList.length=b.size:=nS;rw[h2]at h1;have A:(256:Nat)^b.size<=256^8:=lg nO h.2;have C:(256:Nat)^8=18446744073709551616:=nO;omega
 .decide
def KF(t:nM TL)(s:ByteArray)(items:Int):Except Nat (nM IL×Nat):=
 if(qf 8 t (RS.of s) (min items 1024).toNat).2.1.f≠0 then .error (qf 8 t (RS.of s) (min items 1024).toNat).2.1.f.toNat
 else .ok ((qf 8 t (RS.of s) (min items 1024).toNat).1,(qf 8 t (RS.of s) (min items 1024).toNat).2.1.p)
def Uw(t:nM TL)(s:ByteArray)(items:Int):Except Nat (nM IL):=match KF t s items with
 | .error er=> .error er
 | .ok y=>if y.2<s.size then .error 3 else .ok y.1
end
section
def EY(l:List UInt8)(R:Except Nat (nM IL×Nat×Nat)):Except Nat (nM IL):=match R with
 | .error er=> .error er
 | .ok y=>if y.2.1<l.length then .error 3 else .ok y.1
end
section
open Go.RowKit
structure Row where
 id:Nat
 name:ByteArray
 text:ByteArray
 ty:nM TL
structure Ii where
 name:ByteArray
 val:nM IL
def GD(c:oF)(t:nM TL)(s:ByteArray):Except Nat (nM IL):=
 if c.fmt=1 then Uw t s c.oV else Bi t (EY s.data.toList (wO (min c.dep 16).toNat s.data.toList (min c.oV 1024).toNat))
def ofF(c:oF)(rows:List Row)(f:vP):Option Row:=
 if c.fmt=1 then if f.id=0 then rows.find? λr=>decide (r.name=f.name)else V else if f.name.size=0 then rows.find? λr=>decide (r.id=f.id)else V
def IE(c:oF)(rows:List Row)(f:vP):Except Nat Ii:=match ofF c rows f with
 |none=> .error 11
 |some r=>match GD c r.ty f.body with
  | .error er=> .error (if er=2 then 3 else er)
  | .ok x=> .ok ⟨r.name,x⟩
def rJ(c:oF)(rows:List Row)(s:ByteArray)(mt:Option (Nat×MS)):Except Nat (Ii×Nat)×Option (Nat×MS):=match qw c s mt with
 |(.error er,m2)=>(.error er,m2)
 |(.ok y,m2)=>match IE c rows y.1 with
  | .error er=>(.error er,m2)
  | .ok m=>(.ok (m,y.2),m2)
structure a00 where
 told:List Ii
 at_:Nat
 err:Nat
 mt:Option (Nat×MS)
def uJ(c:oF)(rows:List Row)(s:ByteArray):Nat->Nat->Option (Nat×MS)->a00
 |0,p,mt=>⟨[],p,2,mt⟩
 |n+1,p,mt=>match rJ c rows (s.extract p s.size) mt with
  |(.error er,m2)=>⟨[],p,er,m2⟩
  |(.ok y,m2)=>⟨y.1::(uJ c rows s n (p+y.2) m2).told,(uJ c rows s n (p+y.2) m2).at_,(uJ c rows s n (p+y.2) m2).err,(uJ c rows s n (p+y.2) m2).mt⟩
theorem D5(c:oF)(rows:List Row)(s:ByteArray)(mt:Option (Nat×MS)):oM (rJ c rows s mt).2=oM mt:=by
 have h:=zJ c s mt;unfold rJ;split;.rename_i e1;rw[e1]at h;exact h
 .rename_i e1
  rw[e1]at h;split<;>exact h
theorem Na{f:Nat->Int}:∀ n k:Nat,xg f n k=0->∀j,j<n->f (k+j)=0
 |0,k,_,j,A=>by omega
 |n+1,k,h,j,A=>by
  unfold xg at h;split at h
  .rename_i h0
   cases j with
   |zero=>exact h0
   |succ j=>rw[show k+(j+1)=k+1+j by omega];exact Na n (k+1) h j nL
  .rename_i h0;exact absurd h h0
theorem Xt{s:ByteArray}{m most:Int}{y:vP×Nat}(h:uP s m most=.ok y):0<y.2/\y.2<=s.size/\y.1.body.size<=s.size/\y.1.id=0:=by
 unfold uP at h;split at h
 .rename_i h0
  cases h;have A:=Na 9 0 h0 7 nO;have A:Iz (decide (24+uU s<=s.size)) 2=0:=A;have C:=uE nO A;simp only[decide_eq_true_eq]at C;refine⟨nL,C,?_,rfl⟩;simp only[kC];omega
 .cases h
theorem Nb{l:List UInt8}{N K:Nat}(h:oD l 0 0=(N,K,0)):0<K:=by
 cases K with
 |zero=>
  obtain⟨_,_,C,_⟩:=tN h;have A:=OO N;rw[C]at A;simp at A
 |succ K=>omega
theorem Nc{most:Int}{s:ByteArray}(h:(pq most s).e=0):0<(pq most s).n/\(pq most s).n<=s.size/\(pq most s).body.size<=s.size:=by
 unfold pq at*;split
 .rename_i h0
  rw[if_pos h0]at h;generalize E:pI most s.data.toList=q at*;obtain⟨n,k,e⟩:=q;dsimp only at*;subst h0;have h1:=zA E;have h2:=Nb h1.1;split
  .rename_i A
   rw[if_pos A]at h;cases h
  .rename_i A
   rw[if_neg A]at h;split
   .rename_i C
    refine⟨by dsimp only;omega,by dsimp only;omega,?_⟩;dsimp only;simp only[kC];omega
   .rename_i C
    rw[if_neg C]at h;cases h
 .rename_i h0
  rw[if_neg h0]at h;exact absurd h h0
theorem RX{size:Nat}:∀(f:Nat)(r:RS)(l:List UInt8),r.Ok->l.length<=size->(zg size f r l).2.length<=size
 |0,r,l,_,hl=>hl
 |f+1,r,l,ho,hl=>by
  unfold zg;split
  .rename_i h
   obtain⟨_,_,A,C⟩:=zC ho hl h.1 h.2;exact RX f _ _ A C
  .exact hl
theorem Xu{s:ByteArray}{size:Nat}{l:List UInt8}(hs:s.size<=j3)(h:Eu s size=.ok l):l.length<=size:=by
 unfold Eu at h;dsimp only at h;have h1:=RX (size:=size) (s.size+1) (RS.of s) [] (RS.Ok.of (by unfold j3 at hs;omega)) (kH _);generalize zg size (s.size+1) (RS.of s) []=y at*;generalize (if y.2.length<size then y.1.fail 2 else y.1)=r at h;split at h;.cases h
 .cases h;exact h1
theorem P5{s:ByteArray}{A:Int}{mt m2:Option (Nat×MS)}{l:List UInt8}(hs:s.size<=j3)(h:qQ s A mt=(.ok l,m2)):(l.length:Int)<=A:=by
 unfold qQ at h;generalize uA s.data.toList=q at*;obtain⟨n,k,e⟩:=q;dsimp only at h;split at h;.cases h
 .split at h
  .cases h
  .rename_i h1
   split at h;.cases h
   .simp only[Prod.mk.injEq]at h
    have:=Xu (by simp only[kC];omega) h.1;omega
theorem Nf{c:oF}(hc:oJ c=true){s:ByteArray}(hs:s.size<=100000){mt:Option (Nat×MS)}{y:vP×Nat}(h:(qw c s mt).1=.ok y):0<y.2/\y.2<=s.size/\y.1.body.size<=100000:=by
 obtain⟨_,_,⟨C,E⟩,_,_⟩:=qU hc;unfold qw at h;split at h
 .have:=Xt h
  exact⟨this.1,this.2.1,nL⟩
 .split at h
  .dsimp only at h
   unfold wN at h;split at h;.cases h
   .rename_i h0
    cases h;have:=Nc (by simpa using h0);exact⟨this.1,this.2.1,by dsimp only;omega⟩
  .unfold sW at h
   split at h;.cases h
   .rename_i h0
    have h1:=Nc (by simpa using h0);split at h;.cases h
    .rename_i l m2 A
     cases h;have h2:=P5 yD A;exact⟨h1.1,h1.2.1,by show((⟨l.toArray⟩:ByteArray)).size<=100000;have:((⟨l.toArray⟩:ByteArray)).size=l.length:=mP;omega⟩
def r9(D:Nat->Bool)(vs:Nat->jP):List lY->Nat->Act->Act
 |[],_,a=>a
 |o::l,k,a=>r9 D vs l (k+1) (if D k then a.put o.dst (vs k)else a)
def xy(vs:Nat->jP):List lY->Nat->Act->Act
 |[],_,a=>a
 |o::l,k,a=>xy vs l (k+1) (a.put o.dst (vs k))
theorem Jl{D:Nat->Bool}{vs:Nat->jP}:∀(l:List lY)(k:Nat)(a:Act),(∀j,k<=j->j<k+l.length->D j=true)->r9 D vs l k a=xy vs l k a
 |[],_,_,_=>rfl
 |o::l,k,a,h=>by
  rw[r9,xy,if_pos (h k (jK _) nS)];exact Jl l (k+1) _ λj h1 h2=>h j nL nT
theorem GG{D:Nat->Bool}{vs:Nat->jP}:∀(l:List lY)(k:Nat)(a:Act),(∀j,k<=j->j<k+l.length->D j=false)->r9 D vs l k a=a
 |[],_,_,_=>rfl
 |o::l,k,a,h=>by
  rw[r9,h k (jK _) nS];exact GG l (k+1) _ λj h1 h2=>h j nL nT
theorem EI{D D':Nat->Bool}{vs vs':Nat->jP}:∀(l:List lY)(k:Nat)(a:Act),(∀j,k<=j->D j=D' j/\vs j=vs' j)->r9 D vs l k a=r9 D' vs' l k a
 |[],_,_,_=>rfl
 |o::l,k,a,h=>by
  rw[r9,r9,(h k (jK _)).1,(h k (jK _)).2];exact EI l (k+1) _ λj h1=>h j nL
def uo:List lY->Bool
 |[]=>true
 |o::l=>(match o.dst with|some d=>l.all λp=>p.dst !=U d|none=>true)&&uo l
theorem BX{D:Nat->Bool}{vs:Nat->jP}{x:Option Tmp}{v:jP}:∀(l:List lY)(k:Nat)(a:Act),(∀d,x=U d->∀p∈l,p.dst≠U d)->r9 D vs l k (a.put x v)=(r9 D vs l k a).put x v
 |[],_,_,_=>rfl
 |o::l,k,a,h=>by
  rw[r9,r9];split;.rw[<-BX l (k+1) _ (λd hd p hp=>h d hd p (by simp[hp])),Act.put_comm a v (vs k) (λd hd=>h d hd o nS)]
  .exact BX l (k+1) _ λd hd p hp=>h d hd p (by simp[hp])
theorem zV{o:lY}{l:List lY}(h:uo (o::l)=true):(∀d,o.dst=U d->∀p∈l,p.dst≠U d)/\uo l=true:=by
 simp only[uo,j4]at h;refine⟨λd hd p hp=> ?_,h.2⟩;have h1:=h.1;rw[hd]at h1;simpa using lM.1 h1 p hp
def zm(D:Nat->Bool)(i:Nat):Nat->Bool:=λj=>if j=i then true else D j
def zn(vs:Nat->jP)(i:Nat)(v:jP):Nat->jP:=λj=>if j=i then v else vs j
theorem Jm{D:Nat->Bool}{vs:Nat->jP}{i:Nat}{o:lY}{v:jP}(A:D i=false):∀(l:List lY)(k:Nat)(a:Act),uo l=true->k<=i->l[i - k]? =U o->(r9 D vs l k a).put o.dst v=r9 (zm D i) (zn vs i v) l k a
 |[],k,a,_,_,ho=>by simp at ho
 |p::l,k,a,hd,hk,ho=>by
  obtain⟨h1,h2⟩:=zV hd;by_cases C:i=k
  .subst C
   simp at ho;subst ho;rw[r9,r9,A];simp only[lV,if_false];rw[show zm D i i=true from if_pos rfl,show zn vs i v i=v from if_pos rfl];simp only[if_true];rw[BX l (i+1) a h1,EI (D':=zm D i) (vs':=zn vs i v) l (i+1) a λj I=>⟨(if_neg nL).symm,(if_neg nL).symm⟩]
  .have E:l[i -(k+1)]? =U o:=by
    rw[show i - k=(i -(k+1))+1 by omega]at ho;simpa using ho
   rw[r9,r9,show zm D i k=D k from if_neg nL,show zn vs i v k=vs k from if_neg nL];exact Jm A l (k+1) _ h2 nL E
def slotL(vs:Nat->jP):List lY->Nat->Tmp->jP->jP
 |[],_,_,v=>v
 |o::l,k,t,v=>if o.dst=U t then vs k else slotL vs l (k+1) t v
theorem Jn{D:Nat->Bool}{vs:Nat->jP}{t:Tmp}:∀(l:List lY)(k:Nat)(a:Act),(∀p∈l,p.dst≠U t)->(r9 D vs l k a).tmps.getD t kI=a.tmps.getD t kI
 |[],_,_,_=>rfl
 |o::l,k,a,h=>by
  rw[r9,Jn l (k+1) _ λp hp=>h p (by simp[hp])];split
  .have:=Act.eval_put (a:=a) (dst:=o.dst) (v:=vs k) (x:=.tmp t) λd hd e=>by cases e;exact h o nS hd
   exact this
  .rfl
theorem Ng{D:Nat->Bool}{vs:Nat->jP}{t:Tmp}:∀(l:List lY)(k:Nat)(a:Act),uo l=true->t<a.tmps.size->(∀j o,l[j]? =U o->o.dst=U t->D (k+j)=true)->
  (r9 D vs l k a).tmps.getD t kI=slotL vs l k t (a.tmps.getD t kI)
 |[],_,_,_,_,_=>rfl
 |o::l,k,a,hd,ht,h=>by
  obtain⟨h1,h2⟩:=zV hd;rw[r9,slotL];by_cases A:o.dst=U t
  .rw[if_pos A,Jn l (k+1) _ λp hp=>h1 t A p hp,show D k=true from h 0 o rfl A]
   simp only[if_true];rw[A];simp[kE,ht]
  .have hput:(if D k then a.put o.dst (vs k)else a).tmps.size=a.tmps.size:=by
    split;.unfold kE;split<;>simp
    .rfl
   have hget:(if D k then a.put o.dst (vs k)else a).tmps.getD t kI=a.tmps.getD t kI:=by
    cases D k;.rfl
    .exact Act.eval_put (a:=a) (dst:=o.dst) (v:=vs k) (x:=.tmp t) λd C e=>by cases e;exact A C
   rw[if_neg A,Ng l (k+1) _ h2 (by rw[hput];exact ht) λj p hp E=>by have:=h (j+1) p (by simpa using hp) E;rwa [show k+(j+1)=k+1+j by omega]at this,hget]
def P6(ops:Array lY)(o:lY)(j:Nat):Bool:=match (ops[j]?).bind (·.dst)with|some d=>(o.looksAt ops).contains d|none=>false
section
variable {P:ma}{ops:Array lY}
theorem Oper.a3R{o:lY}{w:jJ}{K A:Act->jJ->Prop}{Q Q':Exit->Act->jJ->Prop}(h:∀a w,K a w->A a w)(C:∀e a w,Q e a w->Q' e a w)(hL:LetsOut Q->LetsOut Q')(hh:o.wp P a w K Q):o.wp P a w A Q':=by
 unfold Oper.wp at*;generalize (execOp a.eval o).run P w=r at*;cases r with
 |ok n w'=>
  cases n<;>simp only[Oper.upon]at hh⊢;case value u=>exact h _ _ hh
  case skip=>exact h _ _ hh
  case enter f args=>
   refine hh.mono λe E he=> ?_
   cases e<;>simp only at he⊢;.exact h _ _ he
   .exact C _ _ _ he
   .exact hL he
  case defer d=>exact h _ _ hh
  case row r args=>exact hh.mono λv E he=>h _ _ he
 |halt x w'=>
  cases x<;>simp only[Oper.upon]at hh⊢;case panic v=>exact C _ _ _ hh
end
def cB(f:Func):Code:=match f.body with
 |some c=>c
 |none=> .skip
def cL:Code->Code
 | .seq a _=>a
 | .cond _ a _=>a
 | .block _ a=>a
 | .loop a=>a
 | .rangeFunc _ _ a _=>a
 | .scope a=>a
 |a=>a
def cR:Code->Code
 | .seq _ a=>a
 | .cond _ _ a=>a
 | .rangeFunc _ _ _ a=>a
 |a=>a
def cO:Code->List lY
 | .region _ o _=>o.toList
 |_=>[]
def a2E(ops:Array lY)(n sz:Nat):Bool:=
 Region.noSelect ops&&uo (ops.toList.take n)&&decide (n<=ops.size)&&(l5 n).all λi=>match ops[i]? with
  |none=>false
  |some o=>(o.after.all λe=> !mh .any e||decide (e.on<i))&&((o.looksAt ops).all λt=>decide (t<sz))&&(l5 n).all λj=> !P6 ops o j||Region.waitsFor .any ops i j
section
variable {P:ma}{ops:Array lY}
def CW(P:ma)(ops:Array lY)(n:Nat)(a0:Act)(C:(Nat->Bool)->(Nat->jP)->jJ->Prop)(i:Nat)(o:lY):Prop:=
 ∀(D:Nat->Bool)(vs:Nat->jP)(a:Act)(w:jJ)(K:Act->jJ->Prop),C D vs w->D i=false->(∀j,j<n->Region.waitsFor .any ops i j=true->D j=true)->(∀j,j<n->Region.waitsFor .any ops j i=true->D j=false)->
  (∀t∈o.looksAt ops,a.tmps.getD t kI=slotL vs (ops.toList.take n) 0 t (a0.tmps.getD t kI))->
  (∀v A w',A=a.put o.dst v->C (zm D i) (zn vs i v) w'->K A w')->
  if Region.wanted o (yielded ops a.tmps)=true then o.wp P a w K (λ_ _ _=>False)else K (a.put o.dst kI) w
theorem og{id:Nat}{Q:Exit->Act->jJ->Prop}{w:jJ}{l:List lY}(n sz:Nat)(bu:(Nat->Bool)->(Nat->jP)->jJ->Prop)(az:P.follows .mixedOrders=true)(hsz:a0.tmps.size=sz)(hB:a2E l.toArray n sz=true)(af:n=l.length\/(Region.sinkB .any l.toArray n&&Region.chainB .any l.toArray n&&decide (n<l.length))=true)(bz:Region.seqB .any l.toArray (l.length - n) n (lD n true++lD (l.length - n) false)=true)(hI:∀vs,bu (λ_=>false) vs {w with drawn:=w.drawn+1})(hop:∀i o,i<n->l[i]? =U o->CW P l.toArray n a0 bu i o)(bA:∀(D:Nat->Bool) (vs:Nat->jP) (w':jJ),(∀j,j<n->D j=true)->bu D vs w'->wpList P l.toArray Q (l.drop n) (xy vs (l.take n) 0 a0) w'):
  (ll id l.toArray true).wp P Q a0 w:=by
 simp only[a2E,j4,decide_eq_true_eq]at hB;obtain⟨⟨⟨bB,aK⟩,aP⟩,ag⟩:=hB;have bC:n<=l.length:=by simpa using aP
 have aa:uo (l.take n)=true:=by simpa using aK
 refine wp_region_any az ?_
 have key:∀(f:Nat)(A:Array Bool)(a:Act)(w:jJ)(vs:Nat->jP),HeadInv .any l.toArray n A->((l5 n).filter λj=> !A.getD j false).length=f->
   a=r9 (λj=>A.getD j false) vs (l.take n) 0 a0->bu (λj=>A.getD j false) vs w->wpAny P .any l.toArray Q (f+(l.length - n)) A a w:=by
  intro f;induction f with
  |zero=>
   intro A a w vs inv aA aB ah;have hdone:∀j,j<n->A.getD j false=true:=λj C=>by
    have h0:=List.eq_nil_of_length_eq_zero aA;rw[List.filter_eq_nil_iff]at h0;have:=h0 j (mf.2 C);simpa using this
   have aC:A=lD n true++lD (l.length - n) false:=by
    have aQ:=inv.size;simp at aQ;apply Array.ext;.simp;omega
    .intro j h1 h2
     by_cases C:j<n
     .have:=hdone j C
      rw[Array.getElem_append_left (by simpa using C)];simpa [h1]using this
     .have:=inv.tail j nL nT
      rw[Array.getElem_append_right nT];simpa [h1]using this
   have aD:a=xy vs (l.take n) 0 a0:=by
    rw[aB];exact Jl _ _ _ λj _ C=>hdone j (by simp at C;omega)
   rw[Nat.zero_add];have:=wpAny_of_seq (P:=P) (md:=.any) (ops:=l.toArray) (Q':=Q) (l.drop n) n A a w (λj=>by simp[List.getElem?_drop]) (by rw[kX,aC];exact bz) (by
    rw[aD];exact bA _ vs w hdone ah)
   rwa [kX]at this
  |succ f bD=>
   intro A a w vs inv aA aB ah;have aH:∃j,j<n/\A.getD j false=false:=by
    have h0:(l5 n).filter (λj=> !A.getD j false)≠[]:=by intro h;rw[h]at aA;simp at aA
    obtain⟨j,C⟩:=List.exists_mem_of_ne_nil _ h0;rw[List.mem_filter,mf]at C;exact⟨j,C.1,by simpa using C.2⟩
   have hin:∀j,j<n->j<A.size:=λj C=>by rw[inv.size];simp;omega
   rw[show f+1+(l.length - n)=(f+(l.length - n))+1 by omega];have ai:lN .any l.toArray A≠[]:=by
    have:∃j,(j<n/\A.getD j false=false)/\∀k,k<j->¬(k<n/\A.getD k false=false):=by
     obtain⟨j,C⟩:=aH;induction j using Nat.strongRecOn with
     |_ j aR=>
      rcases Classical.em (∃k,k<j/\(k<n/\A.getD k false=false))with⟨k,hk,hk2⟩|h
      .exact aR k hk hk2
      .exact⟨j,C,λk hk hk2=>h ⟨k,hk,hk2⟩⟩
    obtain⟨j,⟨I,aj⟩,aL⟩:=this;have aS:j<l.length:=nL;have N:l.toArray[j]? =U l[j]:=by simp[aS]
    have h1:=lM.1 ag j (mf.2 I);rw[N]at h1;simp only[j4]at h1;intro h0;have az:j∈lN .any l.toArray A:=by
     rw[mem_ready];refine⟨getD_in (hin j I) aj,l[j],N,λe he hb=> ?_⟩;have h2:=Array.all_eq_true_iff_forall_mem.1 h1.1.1 e he;rw[hb]at h2;simp at h2;cases hl:A.getD e.on false with
     |true=>rfl
     |false=>exact absurd ⟨nL,hl⟩ (aL e.on h2)
    rw[h0]at az;cases az
   refine⟨λh0=>absurd h0 ai,λi hi=> ?_⟩;have aT:=mem_ready.1 hi;obtain⟨ae,oi,Y,aF⟩:=aT;have bH:i<l.length:=by have:=(ku.1 Y).1;simpa using this
   have E:i<n:=by
    rcases kZ i n with h|h
    .exact h
    .rcases af with af|af
     .omega
     .simp only[j4,decide_eq_true_eq]at af
      obtain⟨⟨hs,hc⟩,hn⟩:=af;obtain⟨j,I,aj⟩:=aH;exact absurd hi (tail_waits hs hc (by simpa using hn) inv _ j rfl I (getD_in (hin j I) aj) i h)
   have ak:l[i]? =U oi:=by simpa using Y
   have h1:=lM.1 ag i (mf.2 E);rw[Y]at h1;simp only[j4]at h1;obtain⟨⟨_,au⟩,av⟩:=h1;have aI:∀j,Region.waitsFor .any l.toArray i j=true->A.getD j false=true:=λj O=>by
    obtain⟨bE,aU,e,he,hb,ax⟩:=Region.waitsFor_spec O;have:bE=oi:=l8 (aU.symm.trans Y);subst this;rw[<-ax];exact aF e he hb
   have hdone:∀j,j<n->P6 l.toArray oi j=true->A.getD j false=true:=λj C aV=>by
    have h2:=lM.1 av j (mf.2 C);rw[aV]at h2;simp only[Bool.not_true,Bool.false_or]at h2;exact aI j h2
   have aG:∀t∈oi.looksAt l.toArray,a.tmps.getD t kI=slotL vs (l.toArray.toList.take n) 0 t (a0.tmps.getD t kI):=λt ht=>by
    have h2:=lM.1 au t ht;rw[aB];exact Ng (l.take n) 0 a0 aa (by rw[hsz];simpa using h2) λj o C aM=>by
     rw[Nat.zero_add];have I:j<n:=by have:=(lF.1 C).1;simp at this;omega
     have N:l.toArray[j]? =U o:=by rw[List.getElem?_take,if_pos I]at C;simpa using C
     refine hdone j I ?_;unfold P6;rw[N];show(match o.dst with|some d=>(oi.looksAt l.toArray).contains d|none=>false)=true;rw[aM];simpa using ht
   have ay:∀j,(A.setIfInBounds i true).getD j false=if j=i then true else A.getD j false:=λj=>by
    by_cases h:j=i;.subst h;simp[hin j E]
    .rw[if_neg h,getD_set_ne false (Ne.symm h)]
   have aJ:(λj=>(A.setIfInBounds i true).getD j false)=zm (λj=>A.getD j false) i:=funext λj=>by rw[ay];rfl
   have J:=hop i oi E ak (λj=>A.getD j false) vs a w (wpAny P .any l.toArray Q (f+(l.length - n)) (A.setIfInBounds i true)) ah (getD_both ae) (λj _ O=>aI j O) (λj C O=>by
    cases hl:A.getD j false with
    |false=>rfl
    |true=>
     obtain⟨aW,N,e,he,hb,ax⟩:=Region.waitsFor_spec O;have:=inv.closed j aW N hl e he hb;rw[ax,getD_both ae]at this;cases this) aG (λv bF w' aX aY=>by
    refine bD (A.setIfInBounds i true) bF w' (zn vs i v) (inv.set hi E) ?_ ?_ ?_
    .have aZ:((l5 n).filter λj=> !A.getD j false).length=((l5 n).filter λj=> !(A.setIfInBounds i true).getD j false).length+1:=by
      have aN:(λj=> !(A.setIfInBounds i true).getD j false)=λj=> !(if j=i then true else A.getD j false):=funext λj=>by rw[ay]
      rw[aN];have bg:∀m,i<m->((l5 m).filter λj=> !A.getD j false).length=((l5 m).filter λj=> !(if j=i then true else A.getD j false)).length+1:=by
       intro m;induction m with
       |zero=>intro h;omega
       |succ m bq=>
        intro bI;rw[List.range_succ,List.filter_append,List.filter_append,j5,j5];by_cases h:i=m
        .subst h
         have e1:(l5 i).filter (λj=> !A.getD j false)=(l5 i).filter (λj=> !(if j=i then true else A.getD j false)):=by
          refine List.filter_congr λj C=> ?_
          have:=mf.1 C;rw[if_neg nL]
         rw[e1];have:A.getD i false=false:=getD_both ae;simp only[List.filter_cons,List.filter_nil,this,if_true];simp
        .rw[bq nL]
         simp only[List.filter_cons,List.filter_nil,if_neg (Ne.symm h)];omega
      exact bg n E
     omega
    .rw[aX,aB]
     have bG:=Jm (D:=λj=>A.getD j false) (vs:=vs) (i:=i) (o:=oi) (v:=v) (getD_both ae) (l.take n) 0 a0 aa (kH _) (by rw[Nat.sub_zero,List.getElem?_take,if_pos E];exact ak);rw[bG,aJ]
    .rw[aJ];exact aY)
   unfold wpOp;rw[Y];show if Region.wanted oi (yielded l.toArray a.tmps)=true then _ else _
   split
   .rename_i O
    rw[if_pos O]at J;exact .inl (Oper.a3R (λ_ _ h=>h) (λ_ _ _ h=>h.elim) (λh=>by obtain⟨_,_,h⟩:=h;exact h.elim) J)
   .rename_i O
    rw[if_neg O]at J;exact J
 have aO:HeadInv .any l.toArray n (lD l.toArray.size false):=
  ⟨nS,λj aW _ hl=>(by rw[getD_replicate_false]at hl;cases hl),λt _ ht=>getD_in (by simpa using ht) (getD_replicate_false _ _)⟩
 have:=key n (lD l.toArray.size false) a0 {w with drawn:=w.drawn+1} (λ_=>kI) aO (by
  rw[List.filter_eq_self.2 (λj _=>by rw[getD_replicate_false];rfl),List.length_range]) (by
  rw[GG _ _ _ λj _ _=>getD_replicate_false _ _]) (by
  rw[show(λj=>(lD l.toArray.size false).getD j false)=λ_=>false from funext λj=>getD_replicate_false _ _];exact hI _)
 rw[show n+(l.length - n)=l.length by omega]at this;simpa using this
theorem uq{x:Array jP}{k:Nat}{b:Bool}(h:x.getD k kI=nC b):x[k]? =U (nC b):=by
 rw[lG]at h;cases A:x[k]? with
 |none=>rw[A]at h;cases h
 |some v=>rw[A]at h;exact congrArg U h
theorem oo(D:Nat->Bool)(i:Nat):zm D i i=true:=if_pos rfl
theorem nR(D:Nat->Bool){i j:Nat}(h:j≠i):zm D i j=D j:=if_neg h
theorem pG(vs:Nat->jP)(i:Nat)(v:jP):zn vs i v i=v:=if_pos rfl
theorem om(vs:Nat->jP){i j:Nat}(v:jP)(h:j≠i):zn vs i v j=vs j:=if_neg h
end
def qW(P:ma)(A:Array lY)(n:Nat)(a0:Act)(C:(Nat->Bool)->(Nat->jP)->jJ->Prop):Nat->List lY->Prop
 |_,[]=>True
 |k,o::l=>CW P A n a0 C k o/\qW P A n a0 C (k+1) l
theorem RY{P:ma}{A:Array lY}{n:Nat}{C:(Nat->Bool)->(Nat->jP)->jJ->Prop}:∀{l:List lY}{k i:Nat}{o:lY},qW P A n a0 C k l->l[i]? =U o->CW P A n a0 C (k+i) o
 |[],_,_,_,_,h=>by simp at h
 |_::_,k,0,_,h,e=>by simp at e;subst e;exact h.1
 |_::l,k,i+1,o,h,e=>by
  have:=RY (l:=l) (k:=k+1) (i:=i) (o:=o) h.2 (by simpa using e);rwa [show k+1+i=k+(i+1)by omega]at this
theorem rM{P:ma}{n:Nat}{C:(Nat->Bool)->(Nat->jP)->jJ->Prop}{l:List lY}(h:∀A,A=l.toArray->qW P A n a0 C 0 (l.take n)):∀i o,i<n->l[i]? =U o->CW P l.toArray n a0 C i o:=λi o hi ho=>by
 have:=RY (h _ rfl) (i:=i) (o:=o) (by rw[List.getElem?_take_of_lt hi];exact ho);rwa [Nat.zero_add]at this
theorem fe{l:List lY}{n i:Nat}{o:lY}{vs N:Nat->jP}{S D:Nat->Bool}(A:∀t∈o.looksAt l.toArray,a.tmps.getD t kI=slotL vs (l.toArray.toList.take n) 0 t (a0.tmps.getD t kI))(hI:∀j,S j=true->D j=true->vs j=N j)(C:∀j,j<n->Region.waitsFor .any l.toArray i j=true->D j=true)(t j:Nat)(h1:t∈o.looksAt l.toArray:=by decide)(h2:S j=true:=by rfl)(E:j<n:=by decide)(I:Region.waitsFor .any l.toArray i j=true:=by kernel_rfl)(J:slotL vs (l.toArray.toList.take n) 0 t (a0.tmps.getD t kI)=vs j:=by rfl):a.tmps.getD t kI=N j:=(A t h1).trans (J.trans (hI j h2 (C j E I)))
theorem Nh{vs A:Nat->jP}:∀(l:List lY)(k:Nat)(a:Act),(∀j,j<k+l.length->vs j=A j)->xy vs l k a=xy A l k a
 |[],_,_,_=>rfl
 |o::l,k,a,h=>by
  rw[xy,xy,h k nS,Nh l (k+1) _ λj C=>h j nT]
theorem oW{l:List lY}{n:Nat}{vs E:Nat->jP}{S D:Nat->Bool}(hI:∀j,S j=true->D j=true->vs j=E j)(A:∀j,j<n->D j=true):xy vs (l.take n) 0 a=xy (λj=>if S j=true then E j else vs j) (l.take n) 0 a:=
 Nh _ _ _ λj C=>by
  rw[Nat.zero_add,mi]at C;by_cases h:S j=true;.rw[if_pos h];exact hI j h (A j nL)
  .rw[if_neg h]
theorem uK{S:Nat->Bool}{C:Nat->jP}{D:Nat->Bool}{vs:Nat->jP}{i:Nat}(h:∀j,S j=true->D j=true->vs j=C j):∀j,S j=true->zm D i j=true->zn vs i (C i) j=C j:=by
 intro j hs A;by_cases e:j=i;.subst e;exact pG _ _ _
 .rw[om _ _ e];rw[nR _ e]at A;exact h j hs A
theorem KG{S:Nat->Bool}{C:Nat->jP}{D:Nat->Bool}{vs:Nat->jP}{i:Nat}{v:jP}(hi:S i=false)(h:∀j,S j=true->D j=true->vs j=C j):∀j,S j=true->zm D i j=true->zn vs i v j=C j:=by
 intro j hs A;have e:j≠i:=by rintro rfl;rw[hs]at hi;cases hi
 rw[om _ _ e];rw[nR _ e]at A;exact h j hs A
end
end Go.Proofs.YtamfcjmhnndbdaaGreatDoor


