/- Part 5 of the proof. -/
import Derived.Test.YtamfcjmhnndbdaaGreatDoorZoA
import Derived.Test.YtamfcjmhnndbdaaGreatDoorZo00
import Derived.Test.YtamfcjmhnndbdaaGreatDoorZo03
import Derived.Test.YtamfcjmhnndbdaaGreatDoorZo04
import Derived.Deep.RegionWith
import Derived.Lib.Strings
import Derived.StillTail
open Go.Value renaming agg→nI,bool→nH,int→Y,pointer→nG,slice→u,string→G,tuple→nJ,int→lC
open Go.Obj renaming cells→nL
open Go.IntKind renaming i64→X,u32→nO,u64→nN
open Go.Ending renaming returned→nK,returned→kZ
open Go.Lib renaming hid→H,size_eq→l9,extract_data→mF
open Go.Proofs.Tryz renaming prog→jy,underlying9→lU
open Go renaming World→M,Value→jC,Calls→jG,maxLen→jN,bodyPost_ret→jO,TypeId→jX,undef→ku,results→kF,Addr→kW,Oper→lJ,Program→lQ,wpQuiet_nil→l7
open Nat renaming le_refl→jB,le_trans→jM,lt_of_lt_of_le→jZ,zero_le→ko,lt_or_ge→kQ,le_succ→kR,lt_succ_self→lF,pow_le_pow_right→lG,le_of_eq→lZ,min_eq_left→mr,zero_add→mU,add_zero→nk
open Go.RowKit renaming Below→jD,Hid→jI,intOf→kC
open Go.RowKit.Below renaming refl→jE
open And renaming intro→jF
open List renaming setIfInBounds_toArray→jH,length_append→jK,getElem?_eq_getElem→jL,set_cons_zero→jQ,set_cons_succ→jR,getElem?_cons_zero→jS,getElem?_cons_succ→jT,getElem?_toArray→jV,take_succ_cons→jY,length_cons→j4,replicate→ky,length_take→kD,mem_of_getElem?→kE,length_drop→kG,take_zero→kJ,take_of_length_le→kS,range→ll,getElem?_eq_some_iff→lu,size_toArray→lK,take_length→lM,all_eq_true→lN,mem_cons→l5,map_cons→mf,length_eq_zero_iff→mh,mem_range→mJ,getElem?_take→mK,drop_zero→mM,mem_of_find?_eq_some→mY,drop_eq_getElem_cons→nA
open Bool renaming and_eq_true→jJ,false_eq_true→lS,true_and→mQ
open ByteArray renaming size_extract→jP
open UInt8 renaming ofNat→jU
open Go.World renaming setCell→j5,cell?→mV
open Array renaming getElem?_eq_some_iff→j6,getElem?_modify→kU,replicate→lh,getD_eq_getD_getElem?→lD
open Go.Instr renaming index→kP,lookup→lV
open Go.Code renaming region→kT
open Go.Lit renaming int→kY
open Go.Region renaming ready→lI,wanted→ma,binds→mH
open Go.Sem renaming run→lL
open Option.some renaming inj→mg
open Go.Act renaming put→mR
open Ne renaming symm→nz
open Option renaming none→V,some→U
open Bool renaming true→R,false→O
open Go.Addr renaming mk→Z
open Decidable renaming decide→At
namespace Go.Proofs.YtamfcjmhnndbdaaGreatDoor
set_option linter.unusedVariables false
set_option linter.defProp false
set_option linter.unusedSimpArgs false
set_option maxRecDepth 100000
set_option maxHeartbeats 8000000
variable {α κ:Type}{p:Prop}{a a0:Act}
section
open Go.RowKit Go.Maps
def zh{p:α->List (nS α)->Bool}:∀{s:List (nS α)},nS.pF p s=R->∀{y:nS α},y∈s->y.all p=R
 |[],_,_,hy=>by cases hy
 |z::zs,h,y,hy=>by
  simp only[nS.pF,jJ]at h;rcases l5.1 hy with rfl|hy
  .exact h.1
  .exact zh h.2 hy
def Jd(h:p:=by
 have CF:=H hcall;clear hcall;go_wp2_with fail;refine(CF _).mono ?_;rintro e w2 ⟨rfl,hb2⟩;have WN:jI (jD (g+2) w1 w2):=H (hsz▸hb2);clear hb2;go_wp2_with fail;go_meet;exact⟨rfl,WN⟩):p:=h
def PD(x:nS IL):∀(t:nS TL)(w:M)(tv iv:jC)(bo bf bm:Nat),o6 w tv t.sub->qF w iv x.sub->t.all oJ=R->x.all p9=R->x.count<=100000->x.lab.text.length<=jN->FtE bo bf bm w->
  jG jy 197 #[nI #[Y X t.lab.kind,Y X t.lab.size,tv,Y X t.lab.tail],nI #[G (txt x.lab),nH x.lab.list,iv],nG (U (Z bo 0 V)),nG (U (Z bf 0 V))] w
   λe w'=>e=nK (nH (rH x t))/\jD w.heap.size w w':=by
 induction x using nS.ind with
 |h a s bZ=>
  intro t w tv iv bo bf bm ay az af ak aA bE cz;simp only[nS.o9,nS.rE]at*;obtain⟨ot,ct,rfl,_,_⟩:=ay.slice;obtain⟨oi,ci,rfl,_,_⟩:=oo.slice az;obtain⟨m,bg⟩:=og s.length;have cK:m<=100000:=by
   have A:=nS.tY s;simp only[nS.count]at aA;omega
  have ae:oJ t.lab t.sub=R:=by
   obtain⟨ta,ts⟩:=t;simp only[nS.all,jJ]at af;exact af.1
  have bq:t.sub.length<=16:=by
   have A:=ae;unfold oJ qo at A;simp only[decide_eq_true_eq]at A;omega
  have aB:∀y,y∈t.sub->y.all oJ=R:=λy hy=>by
   obtain⟨ta,ts⟩:=t;simp only[nS.all,jJ]at af;exact zh af.2 hy
  simp only[nS.all,jJ]at ak;have aC:∀y,y∈s->y.all p9=R:=λy hy=>zh ak.2 hy
  have bF:a.list=R\/m=0:=by
   have A:=ak.1;unfold p9 tu at A;split at A;.rename_i hl;exact .inl hl
   .simp only[decide_eq_true_eq]at A;exact .inr K
  have hcall:=a3n t a ot oi m ct ci ae bE cK;have bG:=H ay;have cZ:=H az;have bO:jI (∀(k:Nat)(y:nS IL),s[k]? =U y->y.count<=100000):=H λk y hy=>by
   have:=nS.Dn (kE hy);simp only[nS.count]at aA;omega
  have eB:=H bZ;have bH:jI (∀k,qX t a m=R->k<m->∃y,qm t k=U y/\y∈t.sub):=H λk h hk=>Pz ae h bF hk
  have bP:=H aB;have bQ:=H aC;obtain⟨g,hg⟩:=og w.heap.size;have aD:=H (Dt (w:=w) t.lab.kind t.lab.size t.lab.tail (u ot t.sub.length ct) (txt a) a.list (u oi m ci));have df:=H bg;obtain⟨ar,bR⟩:=og (rH (.node a s) t);rw[bR];have bu:jI (ar=(qX t a m&&sF s t 0)):=H (by rw[<-bR,<-bg];rfl);have dh:=H cz;have aF:=H hcall;have I:jI (∀W,yE W bm->∀k p,(kY X k).wf=R->vE Sb k=U p->(lV WL (.map (U bm)) (Y X k) O).run jy W=.ok (nI #[p.1,p.2]) W):=H λW h k p A eD=>h.look k A p eD
  have KF:=a3o;rw[bg];rw[hg]at aD|-;clear ay az af ak aA bE cz ae aB aC bF hcall bR bZ bg;obtain⟨dw,bI⟩:=og (qX t a m);rw[bI]at aF bu bH;clear bI;obtain⟨ag,aG⟩:=og t.sub.length;have dx:=H aG;rw[aG]at bG aD aF bq|-;clear aG;obtain⟨bz,aH⟩:=og t.lab.kind;obtain⟨bA,aI⟩:=og t.lab.size;obtain⟨kt,aJ⟩:=og t.lab.tail;have dz:=H aH;have dA:=H aI;have dB:=H aJ;rw[aH,aI,aJ]at aD aF|-;clear aH aI aJ;go_in;go_upto_region 1 with fail;obtain⟨aK,⟨t0,dD,dE,t3⟩,⟨eF,eG,bS⟩,hsz⟩:=aD.out _ rfl;generalize (w.alloc _).alloc _=w1 at*;have dF:=H aK;have aa:=H (dh.below (hg.symm▸aK));have o0:=aa.o.c0;have dG:jI (w1.cell? (Z g 0 V)=U (Y X bz)/\w1.cell? (Z g 1 V)=U (Y X bA)/\w1.cell? (Z g 2 V)=U (u ot ag ct)/\w1.cell? (Z g 3 V)=U (Y X kt)/\w1.cell? (Z (g+1) 2 V)=U (u oi m ci)):=H ⟨t0,dD,dE,t3,bS⟩;clear aD aK;go_cut [17] (λbv eH=>bv=nH (!dw)/\jI (jD (g+2) w1 eH));case first=>
   rcases aF.out with⟨rfl,hcall⟩|⟨rfl,hcall⟩|⟨rfl,hcall⟩|⟨rfl,hcall⟩|⟨rfl,hcall⟩
   .have C:(lV WL (.map (U bm)) (Y X 1) O).run jy w1=.ok (nI #[kf1.1,kf1.2]) w1:=I.out w1 aa.m 1 kf1 nT rfl
    simp only[kf1,Sa]at C;exact Jd
   .have C:(lV WL (.map (U bm)) (Y X 2) O).run jy w1=.ok (nI #[kf2.1,kf2.2]) w1:=I.out w1 aa.m 2 kf2 nT rfl
    simp only[kf2,Sa]at C;exact Jd
   .have C:(lV WL (.map (U bm)) (Y X 3) O).run jy w1=.ok (nI #[kf3.1,kf3.2]) w1:=I.out w1 aa.m 3 kf3 nT rfl
    simp only[kf3,Sa]at C;exact Jd
   .have C:(lV WL (.map (U bm)) (Y X 4) O).run jy w1=.ok (nI #[kf4.1,kf4.2]) w1:=I.out w1 aa.m 4 kf4 nT rfl
    simp only[kf4,Sa]at C;exact Jd
   .have C:(lV WL (.map (U bm)) (Y X 5) O).run jy w1=.ok (nI #[kf5.1,kf5.2]) w1:=I.out w1 aa.m 5 kf5 nT rfl
    simp only[kf5,Sa]at C;exact Jd
  clear t0 dD dE t3 eF eG o0 aF I KF;case rest=>
  obtain⟨rfl,WN⟩:=hcut;have bJ:jI (jD g w wc):=H (dF.trans (WN.mono K));have dH:=(WN.cell (p:=(Z (g+1) 2 V)) (by show g+1<g+2;omega)).trans bS;clear bS;cases dw with
  |false=>
   have aL:jI (ar=O):=H (by rw[bu.out];rfl);go_wp2;go_returns;exact⟨by rw[aL.out];rfl,bJ.out⟩
  |true=>
   have bK:jI (ar=sF s t 0):=H (by rw[bu.out];rfl);have bT:g+2<=wc.heap.size:=jM (lZ hsz.symm) WN.size;clear bu;go_wp2_with fail;clear dH;go_loopw [21] (λkv eO=>∃k:Nat,kv=Y X (k:Int)/\k<=m/\jI (jD (g+2) wc eO)/\jI (sF (s.take k) t 0=R)) (λkv _=>m -(kC kv).toNat);case atStart=>exact⟨0,rfl,K,H (jE _ _),H rfl⟩
   case round=>
    obtain⟨k,rfl,hk,au,dI⟩:=hrel;have aM:jI (jD g w wr):=H (bJ.trans (au.mono K));by_cases c:k<m
    .obtain⟨y,hy⟩:∃y,s[k]? =U y:=⟨_,jL (by rw[df.out];exact c)⟩
     obtain⟨z,ah,bL⟩:=bH.out k trivial c;have aN:jD w.heap.size w wr:=hg.symm▸aM.out;obtain⟨b,off,ao,rfl,hlt,_,dJ,dK,y2,bU,aO⟩:=oo.at_ (Shape.om.below cZ aN) hy;obtain⟨ou,cu,rfl,_,_⟩:=oo.slice bU;have aP:o6 wr (u ot ag ct) t.sub:=Shape.om.below bG aN;have aQ:t.sub[if t.lab.kind=4 then 0 else k]? =U z:=by
      unfold qm at ah;by_cases dL:t.lab.kind=4;.rw[AC dL]at ah|-;exact ah
      .rw[As dL]at ah|-;exact ah
     obtain⟨bt,ai,eQ,dM,aj,z0,dN,dO,z3,aR,bV⟩:=o6.at_ aP aQ;obtain⟨bB,zc,rfl,_,_⟩:=aR.slice;subst dM;obtain⟨bW,aS⟩:=og z.sub.length;obtain⟨bC,aT⟩:=og y.sub.length;have aU:(if t.lab.kind=4 then 0 else k)<ag:=by rw[<-dx.out];exact(lu.1 aQ).1
     have dP:jI (∀W,jD wr.heap.size wr W->jG jy 198 #[nI #[Y X bz,Y X bA,u (U (Z bt ai V)) ag ct,Y X kt],Y X (k:Nat)] W λe w'=>e=nK (nI #[Y X z.lab.kind,Y X z.lab.size,u bB bW zc,Y X z.lab.tail])/\jD W.heap.size W w'):=H λW N=>by
      have h:=M9 t k W (u (U (Z bt ai V)) ag ct) (Shape.om.below aP N) z bB bW zc ⟨bt,ai,⟨ag,ct,rfl,aU,K⟩,jZ aj N.size,(N.cell (p:=(Z bt _ V)) aj).trans z0,(N.cell (p:=(Z bt _ V)) aj).trans dN,(N.cell (p:=(Z bt _ V)) aj).trans (aS▸dO),(N.cell (p:=(Z bt _ V)) aj).trans z3⟩;rw[dz.out,dA.out,dB.out]at h;exact h
     have av:=dh.below aN;have dQ:jI (∀W,jD wr.heap.size wr W->jG jy 197 #[nI #[Y X z.lab.kind,Y X z.lab.size,u bB bW zc,Y X z.lab.tail],nI #[G (txt y.lab),nH y.lab.list,u ou bC cu],nG (U (Z bo 0 V)),nG (U (Z bf 0 V))] W λe w'=>e=nK (nH (rH y z))/\jD W.heap.size W w'):=H λW N=>by
      have h:=eB.out y (kE hy) z W (u bB z.sub.length zc) (u ou y.sub.length cu) bo bf bm (Shape.om.below aR N) (Shape.om.below bU N) (bP z bL) (bQ y (kE hy)) (bO k y hy) aO (av.below N);rw[aS,aT]at h;exact h
     rw[aT]at y2;have dR:jI (sF (s.take (k+1)) t 0=rH y z):=H (by rw[Sd hy ah,dI.out];rfl);have dS:jI (rH y z=O->ar=O):=H λh=>by rw[bK.out];exact Gx hy (by rw[mU];exact ah) h
     have bM:jI (wr.cell? (Z bf 0 V)=U (.func (.func 197) #[] #[nG (U (Z bo 0 V)),nG (U (Z bf 0 V))])/\bf<wr.heap.size):=H ⟨av.f.cell 0,av.f.lt⟩;have dU:jI (g+2<=wr.heap.size/\wr.cell? (Z g 0 V)=U (Y X bz)/\wr.cell? (Z g 1 V)=U (Y X bA)/\wr.cell? (Z g 2 V)=U (u (U (Z bt ai V)) ag ct)/\wr.cell? (Z g 3 V)=U (Y X kt)):=H (by
      have q:∀i,wr.cell? (Z g i V)=w1.cell? (Z g i V):=λi=>(au.cell (p:=(Z g i V)) (by show g<g+2;omega)).trans (WN.cell (p:=(Z g i V)) (by show g<g+2;omega))
      obtain⟨a0,bD,a2,a3,_⟩:=dG.out;exact⟨jM bT au.size,(q 0).trans a0,(q 1).trans bD,(q 2).trans a2,(q 3).trans a3⟩)
     generalize rH y z=eP at*;obtain⟨bX,aV⟩:=og y.lab.list;obtain⟨bY,aW⟩:=og (txt y.lab);obtain⟨eT,aX⟩:=og z.lab.kind;obtain⟨zs,aY⟩:=og z.lab.size;obtain⟨eU,aZ⟩:=og z.lab.tail;rw[aV,aW,aX,aY,aZ]at dQ;rw[aX,aY,aZ]at dP;rw[aV]at dK;rw[aW]at dJ;have dV:jI (∀W,wr.alloc (nL #[G bY,nH bX,u ou bC cu] IT)=W->jD wr.heap.size wr W/\nU W wr.heap.size #[G bY,nH bX,u ou bC cu] IT):=H λW h=>by subst h;exact⟨(jE _ _).alloc (jB _) _,nU.new _ _ _⟩
     clear aV aW aX aY aZ aS aT z0 dN dO z3 aR bV aO bU aP av ah aQ hy aU bL;go_upto_region 6 with fail;obtain⟨E,J⟩:=dV.out _ rfl;generalize wr.alloc _=w5 at*;obtain⟨dW,a0,bD,a2,a3⟩:=dU.out;have ax:∀(x:sW w5) b i,b<wr.heap.size->x.at_.cell? (Z b i V)=wr.cell? (Z b i V):=λx b i h=>(x.is.cell (p:=(Z b i V)) (jZ h E.size)).trans (E.cell (p:=(Z b i V)) h)
     have dX:∀x:sW w5,x.at_.cell? (Z bf 0 V)=U (.func (.func 197) #[] #[nG (U (Z bo 0 V)),nG (U (Z bf 0 V))]):=λx=>(ax x bf 0 bM.2).trans bM.1
     have b0:∀x:sW w5,x.at_.cell? (Z g 0 V)=U (Y X bz):=λx=>(ax x g 0 K).trans a0
     have b1:∀x:sW w5,x.at_.cell? (Z g 1 V)=U (Y X bA):=λx=>(ax x g 1 K).trans bD
     have dY:∀x:sW w5,x.at_.cell? (Z g 2 V)=U (u (U (Z bt ai V)) ag ct):=λx=>(ax x g 2 K).trans a2
     have b3:∀x:sW w5,x.at_.cell? (Z g 3 V)=U (Y X kt):=λx=>(ax x g 3 K).trans a3
     have dZ:∀x:sW w5,x.at_.cell? (Z wr.heap.size 0 V)=U (G bY):=λx=>(x.is.cell (p:=(Z wr.heap.size 0 V)) J.lt).trans (J.cell 0)
     have e1:∀x:sW w5,x.at_.cell? (Z wr.heap.size 1 V)=U (nH bX):=λx=>(x.is.cell (p:=(Z wr.heap.size 1 V)) J.lt).trans (J.cell 1)
     have e2:∀x:sW w5,x.at_.cell? (Z wr.heap.size 2 V)=U (u ou bC cu):=λx=>(x.is.cell (p:=(Z wr.heap.size 2 V)) J.lt).trans (J.cell 2)
     have ed:=H (λx:sW w5=>dP.out x.at_ (E.trans (x.is.mono E.size)));have ek:=H (λx:sW w5=>dQ.out x.at_ (E.trans (x.is.mono E.size)));have bN:jI (∀x:sW w5,jD (g+2) wc x.at_/\jD g w x.at_):=H λx=>
      have A:=E.trans (x.is.mono E.size)
      ⟨au.trans (A.mono dW),aM.trans (A.mono K)⟩
     clear ax E J a0 bD a2 a3 dJ dK y2 hlt;refine oK nV nV ?_;repeat(go_big_quiet_step (first|(go_at_call 198;exact Calls.after (ed _))|(go_at_call 197;exact Calls.after (ek _))))
     refine l7 ?_;intro x;cases eP with
     |true=>
      clear dX b0 b1 dY b3 dZ e1 e2;go_wp2_with fail;exact⟨⟨k+1,by go_num,K,H (bN x).1,dR⟩,by simp[kC];omega⟩
     |false=>
      have aL:=H (dS rfl);clear dX b0 b1 dY b3 dZ e1 e2;go_wp2;go_returns;exact⟨by rw[aL.out];rfl,(bN x).2⟩
    .obtain rfl:k=m:=K
     have eu:jI (ar=R):=H (by
      have A:=dI.out;rw[kS (lZ df.out)]at A;rw[bK.out,A])
     go_wp2;go_returns;exact⟨by rw[eu.out];rfl,aM.out⟩
def qY(t:nS TL)(x:nS IL):Int:=if qc t=R/\si x=R then if rH x t=R then 0 else 12 else 1
def zi{t:nS TL}(h:qc t=R):t.all oJ=R:=by
 unfold qc at h;simp only[jJ]at h;exact h.2
def zQ{x:nS IL}(h:si x=R):x.all p9=R/\x.count<=100000:=by
 unfold si at h;simp only[jJ,decide_eq_true_eq]at h;exact⟨h.1.1,K⟩
def Je(h:p:=by
 go_wp2;go_returns;exact⟨by rw[HE.out];rfl,HB2.out⟩):p:=h
def Du(t:nS TL)(x:nS IL)(w:M)(tv iv:jC)(A:o6 w tv t.sub)(C:qF w iv x.sub)(az:x.lab.text.length<=jN)(aR:qK w):
  jG jy 157 #[nI #[Y X t.lab.kind,Y X t.lab.size,tv,Y X t.lab.tail],nI #[G (txt x.lab),nH x.lab.list,iv]] w λe w'=>e=nK (Y X (qY t x))/\jD w.heap.size w w':=by
 obtain⟨ot,ct,rfl,_,_⟩:=A.slice;obtain⟨oi,ci,rfl,_,_⟩:=oo.slice C;obtain⟨ar,aS⟩:=og (qY t x);rw[aS];obtain⟨g,hg⟩:=og w.heap.size;have aY:jI (∀W,jD w.heap.size w W->qK W):=H λW h=>aR.below h aR.lt
 have aT:=H (λW (h:jD w.heap.size w W)=>Ec t W (u ot t.sub.length ct) (Shape.om.below A h) (aY W h));have aU:=H (λW (h:jD w.heap.size w W)=>I5 x W (u oi x.sub.length ci) (Shape.om.below C h))
 have aa:jI (qc t=R->si x=R->∀W bo bf bm,jD w.heap.size w W->FtE bo bf bm W->jG jy 197 #[nI #[Y X t.lab.kind,Y X t.lab.size,u ot t.sub.length ct,Y X t.lab.tail],nI #[G (txt x.lab),nH x.lab.list,u oi x.sub.length ci],nG (U (Z bo 0 V)),nG (U (Z bf 0 V))] W
   λe w'=>e=nK (nH (rH x t))/\jD W.heap.size W w'):=H λbu aZ W bo bf bm hb bz=>
  PD x t W _ _ bo bf bm (Shape.om.below A hb) (Shape.om.below C hb) (zi bu) (zQ aZ).1 (zQ aZ).2 az bz
 have N:=H (Dt (w:=w) t.lab.kind t.lab.size t.lab.tail (u ot t.sub.length ct) (txt x.lab) x.lab.list (u oi x.sub.length ci));obtain⟨bA,aA⟩:=og t.sub.length;obtain⟨bB,aB⟩:=og x.sub.length;rw[aA]at N aT aa|-;rw[aB]at N aU aa|-;obtain⟨bC,aC⟩:=og t.lab.kind;obtain⟨ts,aD⟩:=og t.lab.size;obtain⟨tt,aF⟩:=og t.lab.tail;obtain⟨bD,aG⟩:=og (txt x.lab);obtain⟨bE,ae⟩:=og x.lab.list;simp only[aC,aD,aF,aG,ae]at N aT aU aa|-;have E:jI (ar=if qc t=R/\si x=R then if rH x t=R then 0 else 12 else 1):=H aS.symm;generalize qc t=bF at*;generalize si x=bG at*;generalize rH x t=bg at*;clear A C aR az aA aB aC aD aF aG ae aS;rw[hg]at N|-;go_in;go_upto_region 1 with fail;obtain⟨aH,⟨t0,af,ag,t3⟩,⟨ah,ai,aj⟩,hsz⟩:=N.out _ rfl;generalize (w.alloc _).alloc _=w1 at*;have aI:=H aH
 have aV:jI (∀W,jD (g+2) w1 W->(W.cell? (Z g 0 V)=U (Y X bC)/\W.cell? (Z g 1 V)=U (Y X ts)/\W.cell? (Z g 2 V)=U (u ot bA ct)/\W.cell? (Z g 3 V)=U (Y X tt))/\
   (W.cell? (Z (g+1) 0 V)=U (G bD)/\W.cell? (Z (g+1) 1 V)=U (nH bE)/\W.cell? (Z (g+1) 2 V)=U (u oi bB ci))):=H λW h=>
  have q:∀b i,b<g+2->W.cell? (Z b i V)=w1.cell? (Z b i V):=λb i hb=>h.cell (p:=(Z b i V)) hb
  ⟨⟨(q g 0 K).trans t0,(q g 1 K).trans af,(q g 2 K).trans ag,(q g 3 K).trans t3⟩,(q (g+1) 0 K).trans ah,(q (g+1) 1 K).trans ai,(q (g+1) 2 K).trans aj⟩
 clear N aH;go_wp2_with fail;refine(aT _ (hg.symm▸aI.out)).mono ?_;rintro e w2 ⟨rfl,ak⟩;have I:jI (jD (g+2) w1 w2):=H (hsz▸ak);have HB2:jI (jD g w w2):=H (aI.trans (ak.mono K));clear ak t0 af ag t3 ah ai aj;obtain⟨⟨t0,af,ag,t3⟩,ah,ai,aj⟩:=aV.out _ I.out;cases bF with
 |false=>
  have HE:jI (ar=1):=H (by rw[E.out];simp);exact Je
 |true=>
  go_wp2_with fail;refine(aU _ (hg.symm▸HB2.out)).mono ?_;rintro e w3 ⟨rfl,au⟩;have aJ:jI (jD (g+2) w1 w3):=H (I.trans (au.mono (by have:=I.size;omega)));have aK:jI (jD g w w3):=H (HB2.trans (au.mono (by have:=I.size;omega)));clear au t0 af ag t3 ah ai aj;cases bG with
  |false=>
   have HE:jI (ar=1):=H (by rw[E.out];simp);go_wp2;go_returns;exact⟨by rw[HE.out];rfl,aK.out⟩
  |true=>
   have HE:jI (ar=if bg=R then 0 else 12):=H (by rw[E.out];simp);have aW:=H (Py w3);obtain⟨bm,WO⟩:=og w3.heap.size;rw[WO]at aW;have bO:g+2<=bm:=by rw[<-WO];have:=aJ.size;omega
   clear E;go_wp2_with fail;refine aW.mono ?_;rintro e w4 ⟨rfl,aL,J⟩;have aM:jI (∀b4 aX av,w4.heap.size=b4->w4.alloc (nL #[.map (U bm)] WL)=aX->aX.alloc (nL #[.func (.func 197) #[] #[nG (U (Z b4 0 V)),nG (U (Z (b4+1) 0 V))]] 108)=av->FtE b4 (b4+1) bm av/\jD (g+2) w1 av/\jD g w av):=H λb4 aX av bH bI bJ=>by
    subst bH bI bJ;have bK:=(jE w4.heap.size w4).alloc (jB _) (nL #[.map (U bm)] WL);have a2:=bK.alloc nX (nL #[.func (.func 197) #[] #[nG (U (Z w4.heap.size 0 V)),nG (U (Z (w4.heap.size+1) 0 V))]] 108);have n1:=(nU.new w4 #[.map (U bm)] WL).alloc (nL #[.func (.func 197) #[] #[nG (U (Z w4.heap.size 0 V)),nG (U (Z (w4.heap.size+1) 0 V))]] 108);have n2:=nU.new (w4.alloc (nL #[.map (U bm)] WL)) #[.func (.func 197) #[] #[nG (U (Z w4.heap.size 0 V)),nG (U (Z (w4.heap.size+1) 0 V))]] 108;have bL:(w4.alloc (nL #[.map (U bm)] WL)).heap.size=w4.heap.size+1:=nX;rw[bL]at n2;have bP:bm<=w4.heap.size:=by rw[<-WO];exact J.size
    exact⟨⟨n1,aL.below a2,n2⟩,(aJ.trans (J.mono K)).trans (a2.mono K),(aK.trans (J.mono K)).trans (a2.mono K)⟩
   clear aL J aW;go_upto_region 6 with fail;obtain⟨ax,aN,ay⟩:=aM.out w4.heap.size _ _ rfl rfl rfl;generalize (w4.alloc _).alloc _=bM at*;clear aM;have bQ:=ax.f.c0;obtain⟨⟨t0,af,ag,t3⟩,ah,ai,aj⟩:=aV.out _ aN;have bq:=H (aa trivial trivial bM _ _ _ (hg.symm▸ay) ax);have aO:=H ay;clear aV aa ax aN ay;go_wp2_with fail;refine bq.mono ?_;rintro e bN ⟨rfl,aP⟩;have aQ:jI (jD g w bN):=H (aO.trans (aP.mono (by have:=aO.size;omega)));clear aP bq;cases bg with
   |false=>
    go_wp2;go_returns;exact⟨by rw[HE.out];rfl,aQ.out⟩
   |true=>
    go_wp2;go_returns;exact⟨by rw[HE.out];rfl,aQ.out⟩
end
section
open Go.RowKit
def itC(x:Option (nS IL))(v:jC):Array jC:=match x with
 |none=>#[G ⟨#[]⟩,nH O,u V 0 0]
 |some y=>#[G (txt y.lab),nH y.lab.list,v]
def Cj(ar:Except Nat (nS IL))(w:M)(e:Ending)(w':M):Prop:=match ar with
 | .error er=>e=nK (nJ #[nI #[G ⟨#[]⟩,nH O,u V 0 0],Y X (er:Nat)])/\jD w.heap.size w w'
 | .ok x=>∃v,e=nK (nJ #[nI #[G (txt x.lab),nH x.lab.list,v],Y X 0])/\oo w' (λc=>w.heap.size<=c) v x.sub/\jD w.heap.size w w'
abbrev FnG:jX:=121
structure Jf(g:Nat)(w:M)(t:TL)(tv:jC)(s:An)(deep most:Int)(x:Option (nS IL))(W:M):Prop where
 t:nU W g #[Y X t.kind,Y X t.size,tv,Y X t.tail] 63
 s:nU W (g+1) #[G s] 9
 d:nU W (g+2) #[Y X deep] 3
 m:nU W (g+3) #[Y X most] 3
 r:nU W (g+4) #[G ⟨#[]⟩,nH O,u V 0 0] IT
 o:∃v,nU W (g+5) (itC x v) IT/\(∀y,x=U y->oo W (λc=>g+7<=c) v y.sub)
 f:nU W (g+6) #[.func (.func 162) #[] #[nG (U (Z g 0 V))],
  .func (.func 164) #[] #[nG (U (Z (g+1) 0 V)),nG (U (Z (g+2) 0 V)),nG (U (Z (g+3) 0 V)),nG (U (Z (g+5) 0 V))],
  .func (.func 166) #[] #[nG (U (Z g 0 V)),nG (U (Z (g+5) 0 V))]] FnG
 b:jD g w W
section
variable {g:Nat}{w W W':M}{t:TL}{tv:jC}{s:An}{deep most:Int}{x:Option (nS IL)}
def Jf.below(h:Jf g w t tv s deep most x W)(hb:jD W.heap.size W W'):Jf g w t tv s deep most x W':=
 ⟨Below.blk hb h.t h.t.lt,Below.blk hb h.s h.s.lt,Below.blk hb h.d h.d.lt,Below.blk hb h.m h.m.lt,Below.blk hb h.r h.r.lt, (let ⟨v,h1,h2⟩:=h.o;⟨v,Below.blk hb h1 h1.lt,λy hy=>Shape.om.below (h2 y hy) hb⟩),Below.blk hb h.f h.f.lt,h.b.trans (hb.mono (by have:=h.t.lt;omega))⟩
end
def UJ(h:p:=by
 go_wp2_with fail;refine CF.mono ?_;rintro e w2 ⟨rfl,hb⟩;have H2:=H (ad.below hb);clear hb;go_wp2;go_returns;exact⟨rfl,H2.out⟩):p:=h
def a6s(t:nS TL)(w:M)(tv:jC)(A:o6 w tv t.sub)(C:qK w)(s:An)(deep most:Int)(x:Option (nS IL))(W:M)(h:Jf w.heap.size w t.lab tv s deep most x W):
  jG jy 162 #[nG (U (Z w.heap.size 0 V))] W λe w'=>e=nK (Y X (if qc t=R then 0 else 1))/\Jf w.heap.size w t.lab tv s deep most x w':=by
 have CF:=H (Ec t W tv (Shape.om.below A h.b) (C.below h.b C.lt));have ad:=H h;obtain⟨t0,E,I,t3⟩:=h.t.a4;clear h A C;generalize qc t=ar at*;generalize w.heap.size=g at*;go_in;cases ar with
 |false=>
  exact UJ
 |true=>
  exact UJ
def got(ar:Except Nat (nS IL)):Option (nS IL):=match ar with
 | .error _=>V
 | .ok x=>U x
def G7(ar:Except Nat (nS IL)):Int:=match ar with
 | .error er=>(er:Nat)
 | .ok _=>0
def UK{g:Nat}{w W:M}{t:TL}{tv:jC}{s:An}{deep most:Int}{A:Option (nS IL)}(h:Jf g w t tv s deep most A W)(x:Option (nS IL))(v:jC)(I:∀y,x=U y->oo W (λc=>g+7<=c) v y.sub)(a b c:jC)(he:itC x v=#[a,b,c]):
  Jf g w t tv s deep most x (((W.setCell (Z (g+5) 0 V) a).setCell (Z (g+5) 1 V) b).setCell (Z (g+5) 2 V) c):=by
 obtain⟨v0,E,J⟩:=h.o;have o:∀{n:Nat}{cs:Array jC}{t:jX},nU W n cs t->n≠g+5->nU (((W.setCell (Z (g+5) 0 V) a).setCell (Z (g+5) 1 V) b).setCell (Z (g+5) 2 V) c) n cs t:=λh hn=>
  ((h.setOther (a:=(Z (g+5) 0 V)) hn _).setOther (a:=(Z (g+5) 1 V)) hn _).setOther (a:=(Z (g+5) 2 V)) hn _
 have hk:∃a0 b0 c0,itC A v0=#[a0,b0,c0]:=by cases A<;>exact⟨_,_,_,rfl⟩
 obtain⟨a0,b0,c0,hk⟩:=hk;rw[hk]at E
 refine⟨o h.t K,o h.s K,o h.d K,o h.m K,o h.r K,⟨v,?_,λy hy=> ?_⟩,o h.f K,
  ((h.b.setCell (p:=(Z (g+5) 0 V)) nX _).setCell (p:=(Z (g+5) 1 V)) nX _).setCell (p:=(Z (g+5) 2 V)) nX _⟩
 .rw[he];exact((E.set 0 a).set 1 b).set 2 c
 .exact Shape.om.keep (I y hy) (by simp[j5]) (λC _ hc=>hc) λC _ hc=>by
   simp[j5,kU,show g+5≠C by omega,show¬g+5=C by omega]
def a6t(t:nS TL)(w:M)(tv:jC)(s:An)(deep most:Int)(ar:Except Nat (nS IL))(hG:∀W,jG jy 165 #[G s,Y X deep,Y X most] W (Cj ar W))(W:M)(h:Jf w.heap.size w t.lab tv s deep most V W):
  jG jy 164 #[nG (U (Z (w.heap.size+1) 0 V)),nG (U (Z (w.heap.size+2) 0 V)),nG (U (Z (w.heap.size+3) 0 V)),nG (U (Z (w.heap.size+5) 0 V))] W
   λe w'=>e=nK (Y X (G7 ar))/\Jf w.heap.size w t.lab tv s deep most (got ar) w':=by
 have A:=H (hG W);have ad:=H h;have ah:=h.s.c0;have ai:=h.d.c0;have aj:=h.m.c0;clear h hG;generalize w.heap.size=g at*;cases ar with
 |error er=>
  unfold Cj at A;dsimp only at A;unfold G7 got;dsimp only;go_in;go_wp2_with fail;refine A.mono ?_;rintro e w2 ⟨rfl,hb⟩;have C:=H (ad.below hb);obtain⟨v0,hB,_⟩:=C.o;obtain⟨N,aa,ae⟩:=hB.f3;have p0:=hB.cell 0;have E:=hB.cell 1;have I:=hB.cell 2;simp only[itC,jV,jS,jT]at p0 E I;clear hB hb;go_wp2;go_returns;exact⟨rfl,UK C V (u V 0 0) (λy hy=>by cases hy) _ _ _ rfl⟩
 |ok x=>
  unfold Cj at A;dsimp only at A;unfold G7 got;dsimp only;go_in;go_wp2_with fail;refine A.mono ?_;rintro e w2 ⟨v,rfl,J,hb⟩;obtain⟨ov,cv,rfl,_,_⟩:=oo.slice J;have C:=H (ad.below hb);have af:jI (oo w2 (λc=>g+7<=c) (u ov x.sub.length cv) x.sub):=H (Shape.om.keep J (jB _) (λc _ hc=>by have:=ad.f.lt;have ag:W.heap.size<=c:=hc;show g+7<=c;omega) λc _ _=>rfl);obtain⟨v0,hB,_⟩:=C.o;obtain⟨N,aa,ae⟩:=hB.f3;have p0:=hB.cell 0;have E:=hB.cell 1;have I:=hB.cell 2;simp only[itC,jV,jS,jT]at p0 E I;clear hB hb J;go_wp2;go_returns;exact⟨rfl,UK C (U x) _ (λy hy=>by cases hy;exact af) _ _ _ rfl⟩
def a6u(t:nS TL)(x:nS IL)(w:M)(tv:jC)(A:o6 w tv t.sub)(C:x.lab.text.length<=jN)(J:qK w)(s:An)(deep most:Int)(W:M)(h:Jf w.heap.size w t.lab tv s deep most (U x) W):
  jG jy 166 #[nG (U (Z w.heap.size 0 V)),nG (U (Z (w.heap.size+5) 0 V))] W λe w'=>e=nK (Y X (qY t x))/\Jf w.heap.size w t.lab tv s deep most (U x) w':=by
 obtain⟨v,hB,N⟩:=h.o;have I:=N x rfl;have aa:=H (Du t x W tv v (Shape.om.below A h.b) (Shape.om.keep I (jB _) (λc _ _=>trivial) λc _ _=>rfl) C (J.below h.b J.lt));have ad:=H h;have t0:=h.t.cell 0;have ae:=h.t.cell 1;have af:=h.t.cell 2;have t3:=h.t.cell 3;have ag:=hB.cell 0;have ah:=hB.cell 1;have ai:=hB.cell 2;simp only[itC,jV,jS,jT]at t0 ae af t3 ag ah ai;clear h A C J N I hB;generalize qY t x=E at*;generalize w.heap.size=g at*;go_in;go_wp2_with fail;refine aa.mono ?_;rintro e w2 ⟨rfl,hb⟩;have aj:=H (ad.below hb);clear hb;go_wp2;go_returns;exact⟨rfl,aj.out⟩
def a6v{w w1 w2 w3 w4 w5 A W:M}{t:nS TL}{tv:jC}{s:An}{deep most:Int}(e1:w.alloc (nL #[Y X t.lab.kind,Y X t.lab.size,tv,Y X t.lab.tail] 63)=w1)(e2:w1.alloc (nL #[G s] 9)=w2)(e3:w2.alloc (nL #[Y X deep] 3)=w3)(e4:w3.alloc (nL #[Y X most] 3)=w4)(e5:w4.alloc (nL #[G ⟨#[]⟩,nH O,u V 0 0] IT)=w5)(C:w5.alloc (nL #[G ⟨#[]⟩,nH O,u V 0 0] IT)=A)(af:A.alloc (nL #[.func (.func 162) #[] #[nG (U (Z w.heap.size 0 V))],
  .func (.func 164) #[] #[nG (U (Z (w.heap.size+1) 0 V)),nG (U (Z (w.heap.size+2) 0 V)),nG (U (Z (w.heap.size+3) 0 V)),nG (U (Z (w.heap.size+5) 0 V))],
  .func (.func 166) #[] #[nG (U (Z w.heap.size 0 V)),nG (U (Z (w.heap.size+5) 0 V))]] FnG)=W):Jf w.heap.size w t.lab tv s deep most V W/\A.heap.size=w.heap.size+6:=by
 have ag:w1.heap.size=w.heap.size+1:=by rw[<-e1];simp
 have ah:w2.heap.size=w.heap.size+2:=by rw[<-e2];simp[ag]
 have z3:w3.heap.size=w.heap.size+3:=by rw[<-e3];simp[ah]
 have z4:w4.heap.size=w.heap.size+4:=by rw[<-e4];simp[z3]
 have z5:w5.heap.size=w.heap.size+5:=by rw[<-e5];simp[z4]
 have ai:A.heap.size=w.heap.size+6:=by rw[<-C];simp[z5]
 have b1:jD w.heap.size w w1:=by rw[<-e1];exact(jE _ _).alloc (jB _) _
 have au:jD w1.heap.size w1 w2:=by rw[<-e2];exact(jE _ _).alloc (jB _) _
 have b3:jD w2.heap.size w2 w3:=by rw[<-e3];exact(jE _ _).alloc (jB _) _
 have b4:jD w3.heap.size w3 w4:=by rw[<-e4];exact(jE _ _).alloc (jB _) _
 have av:jD w4.heap.size w4 w5:=by rw[<-e5];exact(jE _ _).alloc (jB _) _
 have b6:jD w5.heap.size w5 A:=by rw[<-C];exact(jE _ _).alloc (jB _) _
 have aj:jD A.heap.size A W:=by rw[<-af];exact(jE _ _).alloc (jB _) _
 have E:=nU.new w #[Y X t.lab.kind,Y X t.lab.size,tv,Y X t.lab.tail] 63;have I:=nU.new w1 #[G s] 9;have J:=nU.new w2 #[Y X deep] 3;have N:=nU.new w3 #[Y X most] 3;have aa:=nU.new w4 #[G ⟨#[]⟩,nH O,u V 0 0] IT;have ae:=nU.new w5 #[G ⟨#[]⟩,nH O,u V 0 0] IT
 have ak:=nU.new A #[.func (.func 162) #[] #[nG (U (Z w.heap.size 0 V))],
  .func (.func 164) #[] #[nG (U (Z (w.heap.size+1) 0 V)),nG (U (Z (w.heap.size+2) 0 V)),nG (U (Z (w.heap.size+3) 0 V)),nG (U (Z (w.heap.size+5) 0 V))],
  .func (.func 166) #[] #[nG (U (Z w.heap.size 0 V)),nG (U (Z (w.heap.size+5) 0 V))]] FnG
 rw[e1]at E;rw[e2,ag]at I;rw[e3,ah]at J;rw[e4,z3]at N;rw[e5,z4]at aa;rw[C,z5]at ae;rw[af,ai]at ak;have c6:jD w5.heap.size w5 W:=b6.trans (aj.mono K);have c5:jD w4.heap.size w4 W:=av.trans (c6.mono K);have c4:jD w3.heap.size w3 W:=b4.trans (c5.mono K);have c3:jD w2.heap.size w2 W:=b3.trans (c4.mono K);have c2:jD w1.heap.size w1 W:=au.trans (c3.mono K);exact⟨⟨Below.blk c2 E E.lt,Below.blk c3 I I.lt,Below.blk c4 J J.lt,Below.blk c5 N N.lt,Below.blk c6 aa aa.lt,⟨u V 0 0,Below.blk aj ae ae.lt,λy hy=>by cases hy⟩,ak,b1.trans (c2.mono K)⟩,ai⟩
def qa(w:M)(g:Nat)(a b c:jC):M:=((w.setCell (Z g 0 V) a).setCell (Z g 1 V) b).setCell (Z g 2 V) c
def qy(w:M)(g:Nat)(a b c:jC):((w.setCell (Z g 0 V) a).setCell (Z g 1 V) b).setCell (Z g 2 V) c=qa w g a b c:=rfl
def UL{g:Nat}{w W:M}{t:TL}{tv:jC}{s:An}{deep most:Int}{x:Option (nS IL)}(h:Jf g w t tv s deep most x W)(a b c:jC):
  nU (qa W (g+4) a b c) (g+4) #[a,b,c] IT/\jD g w (qa W (g+4) a b c)/\∀v (y:nS IL),oo W (λc=>g+7<=c) v y.sub->oo (qa W (g+4) a b c) (λc=>g<=c) v y.sub:=by
 refine⟨((h.r.set 0 a).set 1 b).set 2 c,((h.b.setCell (p:=(Z (g+4) 0 V)) nX _).setCell (p:=(Z (g+4) 1 V)) nX _).setCell (p:=(Z (g+4) 2 V)) nX _,λv y hy=> ?_⟩;exact Shape.om.keep hy (by simp[qa,j5]) (λA _ hc=>by have C:g+7<=A:=hc;show g<=A;omega) λA _ hc=>by
   have C:g+7<=A:=hc;simp[qa,j5,kU,show g+4≠A by omega,show¬g+4=A by omega]
def Al(t:nS TL)(ar:Except Nat (nS IL)):Except Nat (nS IL):=if qc t=R then match ar with
 | .error er=> .error er
 | .ok x=>if qY t x=0 then .ok x else .error (qY t x).toNat
 else .error 1
def a3p(t:nS TL)(ar:Except Nat (nS IL)):Int:=match ar with
 | .error _=>0
 | .ok x=>qY t x
def Ee(t:nS TL)(x:nS IL):0<=qY t x:=by
 unfold qY;split;.split<;>omega
 .omega
def PE(t:nS TL)(ar:Except Nat (nS IL))(J:∀er,ar=.error er->1<=er)(E:Int)(A:E=(if(if qc t=R then(0:Int)else 1)≠0 then(if qc t=R then 0 else 1)else if G7 ar≠0 then G7 ar else a3p t ar)):
  (∃er:Nat,E=er/\E≠0/\Al t ar=.error er)\/(∃x,E=0/\ar=.ok x/\Al t ar=.ok x/\(if(if qc t=R then(0:Int)else 1)≠0 then 1 else if G7 ar≠0 then 2 else 3)=3):=by
 unfold Al;by_cases I:qc t=R
 .simp only[I,if_true]at A|-
  rw[As nT]at A;cases ar with
  |error er=>
   have aa:=J er rfl;have C:G7 (.error er:Except Nat (nS IL))=(er:Int):=rfl;rw[C,AC K]at A;exact .inl ⟨er,A,K,rfl⟩
  |ok x=>
   have C:G7 (.ok x:Except Nat (nS IL))=0:=rfl;have N:a3p t (.ok x)=qY t x:=rfl;have ae:=Ee t x;rw[C,N,As nT]at A;by_cases h0:qY t x=0
   .refine .inr ⟨x,K,rfl,?_,?_⟩
    .simp only[h0,if_true]
    .rw[C];rfl
   .refine .inl ⟨(qY t x).toNat,K,K,?_⟩
    simp only[h0,if_false]
 .simp only[I]at A|-
  exact .inl ⟨1,by rw[A];rfl,by rw[A];simp,rfl⟩
def Zr(t:nS TL)(ar:Except Nat (nS IL))(aj:∀er,ar=.error er->1<=er)(w:M)(tv:jC)(J:o6 w tv t.sub)(ah:∀x,ar=.ok x->x.lab.text.length<=jN)(ak:qK w)(s:An)(deep most:Int)(hG:∀W,jG jy 165 #[G s,Y X deep,Y X most] W (Cj ar W)):
  jG jy 117 #[nI #[Y X t.lab.kind,Y X t.lab.size,tv,Y X t.lab.tail],G s,Y X deep,Y X most] w (Cj (Al t ar) w):=by
 have aB:jI (∀I W,((((((w.alloc (nL #[Y X t.lab.kind,Y X t.lab.size,tv,Y X t.lab.tail] 63)).alloc (nL #[G s] 9)).alloc (nL #[Y X deep] 3)).alloc (nL #[Y X most] 3)).alloc (nL #[G ⟨#[]⟩,nH O,u V 0 0] IT)).alloc (nL #[G ⟨#[]⟩,nH O,u V 0 0] IT))=I->I.alloc (nL #[.func (.func 162) #[] #[nG (U (Z w.heap.size 0 V))],
  .func (.func 164) #[] #[nG (U (Z (w.heap.size+1) 0 V)),nG (U (Z (w.heap.size+2) 0 V)),nG (U (Z (w.heap.size+3) 0 V)),nG (U (Z (w.heap.size+5) 0 V))],
  .func (.func 166) #[] #[nG (U (Z w.heap.size 0 V)),nG (U (Z (w.heap.size+5) 0 V))]] FnG)=W->I.heap.size=w.heap.size+6/\jG jy 155 #[u (U (Z I.heap.size 0 V)) 3 3] W λe au=>∃E:Int,e=nK (Y X E)/\
   ((∃er:Nat,E=er/\E≠0/\Al t ar=.error er/\∃q,Jf w.heap.size w t.lab tv s deep most q au)\/(∃x,E=0/\Al t ar=.ok x/\Jf w.heap.size w t.lab tv s deep most (U x) au))):=H λI W aK aL=>by
  obtain⟨hI,aa⟩:=a6v (t:=t) (tv:=tv) (s:=s) (deep:=deep) (most:=most) rfl rfl rfl rfl rfl aK aL;refine⟨aa,?_⟩;rw[aa];obtain⟨C,aC,aD,aF,aG⟩:∃C:Nat->Option (nS IL),C 0=V/\C 1=V/\C 2=got ar/\C 3=got ar:=⟨λk=>if k<2 then V else got ar,AC nT,AC nT,As nT,As nT⟩;have aM:∀W,Jf w.heap.size w t.lab tv s deep most (C 0) W->jG jy 162 #[nG (U (Z w.heap.size 0 V))] W λe w'=>e=nK (Y X (if qc t=R then 0 else 1))/\Jf w.heap.size w t.lab tv s deep most (C 1) w':=λW h=>by
   rw[aC]at h;rw[aD];exact a6s t w tv J ak s deep most _ W h
  have aN:∀W,Jf w.heap.size w t.lab tv s deep most (C 1) W->jG jy 164 #[nG (U (Z (w.heap.size+1) 0 V)),nG (U (Z (w.heap.size+2) 0 V)),nG (U (Z (w.heap.size+3) 0 V)),nG (U (Z (w.heap.size+5) 0 V))] W λe w'=>e=nK (Y X (G7 ar))/\Jf w.heap.size w t.lab tv s deep most (C 2) w':=λW h=>by
   rw[aD]at h;rw[aF];exact a6t t w tv s deep most ar hG W h
  have aO:G7 ar=0->∀W,Jf w.heap.size w t.lab tv s deep most (C 2) W->jG jy 166 #[nG (U (Z w.heap.size 0 V)),nG (U (Z (w.heap.size+5) 0 V))] W λe w'=>e=nK (Y X (a3p t ar))/\Jf w.heap.size w t.lab tv s deep most (C 3) w':=λhg W h=>by
   rw[aF]at h;rw[aG];cases ar with
   |error er=>have ae:=aj er rfl;have af:G7 (.error er:Except Nat (nS IL))=(er:Int):=rfl;omega
   |ok x=>exact a6u t x w tv J (ah x rfl) ak s deep most W h
  rw[<-aC]at hI;refine(Pq W _ _ _ (w.heap.size+6) FnG (if qc t=R then 0 else 1) (G7 ar) (a3p t ar) (λk W=>Jf w.heap.size w t.lab tv s deep most (C k) W) (λk W h=>Jf.f h) hI aM (λ_=>aN) (λ_ h=>aO h)).mono ?_;rintro e au ⟨rfl,A⟩;refine⟨_,rfl,?_⟩;rcases PE t ar aj _ rfl with⟨er,ae,af,av⟩|⟨x,ae,af,av,aP⟩
  .exact .inl ⟨er,ae,af,av,_,A⟩
  .rw[aP,aG,af]at A
   exact .inr ⟨x,ae,av,A⟩
 obtain⟨ot,ct,rfl,_,_⟩:=J.slice;generalize Al t ar=aW at*;clear aj J ah ak hG;go_in;go_upto_region 2 with fail;generalize ai:World.alloc (World.alloc _ _) _=I;obtain⟨aa,hcall⟩:=aB.out I _ ai rfl;rw[aa]at hcall;have ax:=H hcall;clear hcall aB ai;rw[show w.heap.size+1+1+1+1+1=w.heap.size+5 from rfl,show w.heap.size+1+1+1+1=w.heap.size+4 from rfl,show w.heap.size+1+1+1=w.heap.size+3 from rfl,show w.heap.size+1+1=w.heap.size+2 from rfl];go_wp2_with fail;refine ax.mono ?_;rintro e aX ⟨E,rfl,⟨er,rfl,he,rfl,q,A⟩|⟨x,rfl,rfl,A⟩⟩
 .have aY:((er:Int) !=0)=R:=by simpa using he
  have ad:=H A;have z0:=A.r.free 0;have aQ:=A.r.free 1;have aR:=A.r.free 2;have aH:=A.r.c0;have aI:=A.r.c1;have y2:=A.r.c2;clear A he ax;go_wp2_with fail;rw[qy];obtain⟨hB,hb,_⟩:=UL ad (G ⟨#[]⟩) (nH O) (u V 0 0);obtain⟨ay,az,aA⟩:=hB.a3;refine jO (v:=nJ #[nI #[G ⟨#[]⟩,nH O,u V 0 0],Y X (er:Nat)]) (by simp[kF,Tryz.results117,go_sem,ay,az,aA]) rfl ⟨rfl,hb⟩
 .have ad:=H A
  obtain⟨v,ag,aJ⟩:=A.o;have N:=aJ x rfl;obtain⟨ov,cv,rfl,_,_⟩:=oo.slice N;have aS:=H N;obtain⟨z0,aQ,aR⟩:=A.r.f3;have aH:=A.r.cell 0;have aI:=A.r.cell 1;have y2:=A.r.cell 2;have aT:=ag.cell 0;have aU:=ag.cell 1;have aV:=ag.cell 2;simp only[itC,jV,jS,jT]at aH aI y2 aT aU aV;clear A ag aJ N ax;go_wp2_with fail;rw[qy];obtain⟨hB,hb,hk⟩:=UL ad (G (txt x.lab)) (nH x.lab.list) (u ov x.sub.length cv);obtain⟨ay,az,aA⟩:=hB.a3;refine jO (v:=nJ #[nI #[G (txt x.lab),nH x.lab.list,u ov x.sub.length cv],Y X 0]) (by simp[kF,Tryz.results117,go_sem,ay,az,aA]) rfl ⟨_,rfl,hk _ _ aS.out,hb⟩
end
section
def qZ(n:Nat):Nat:=if n<253 then n else if n<65536 then 253 else if n<4294967296 then 254 else 255
def pg(b:Nat):Nat:=if b<253 then 0 else if b=253 then 2 else if b=254 then 4 else 8
def vk(n:Nat):List Ax:=jU (qZ n)::vL (pg (qZ n)) n
def rQ:List Ax->Nat×Nat×Nat
 |[]=>(0,0,2)
 |b::r=>if b.toNat<253 then(b.toNat,1,0)else
  if r.length<pg b.toNat then(0,0,2)else
  if qZ (pQ (r.take (pg b.toNat)))≠b.toNat then(0,0,3)else(pQ (r.take (pg b.toNat)),1+pg b.toNat,0)
def Zt(n:Nat):qZ n<256:=by unfold qZ;(repeat' split)<;>omega
def xV(b:Nat):pg b<=8:=by unfold pg;(repeat' split)<;>omega
def a8M(n:Nat)(h:n<18446744073709551616)(c:253<=n):n<256^pg (qZ n):=by
 unfold qZ pg;repeat' split
 all_goals first|omega|(simp;omega)
def Zu(n:Nat):(vk n).length=1+pg (qZ n):=by unfold vk;simp;omega
def UM(n:Nat):(vk n).length<=9:=by rw[Zu];have:=xV (qZ n);omega
def Jg(n:Nat)(h:n<253):qZ n=n:=by unfold qZ;rw[AC h]
def Zv(n:Nat)(h:253<=n):253<=qZ n:=by unfold qZ;(repeat' split)<;>omega
def Sg(n:Nat)(h:n<253):pg n=0:=by unfold pg;rw[AC h]
def UN(n:Nat)(h:n<253):vk n=[jU n]:=by unfold vk;rw[Jg n h,Sg n h];rfl
def PG{l:List Ax}{N am:Nat}(h:rQ l=(N,am,0)):am<=l.length/\N<18446744073709551616/\vk N=l.take am/\am<=9:=by
 cases l with
 |nil=>simp[rQ]at h
 |cons b r=>
  rw[rQ]at h;have hb:=b.toNat_lt;split at h
  .rename_i c
   simp only[Prod.mk.injEq,and_true]at h;obtain⟨rfl,rfl⟩:=h;refine⟨nX,K,?_,K⟩;rw[UN _ c];simp
  .split at h
   .simp at h
   .split at h
    .simp at h
    .rename_i c1 c2 c3
     simp only[Prod.mk.injEq,and_true]at h;obtain⟨rfl,rfl⟩:=h;have hl:(r.take (pg b.toNat)).length=pg b.toNat:=by rw[kD];omega
     have A:=sZ (r.take (pg b.toNat));have C:=xV b.toNat;rw[hl]at A;have E:qZ (pQ (r.take (pg b.toNat)))=b.toNat:=by simpa using c3
     refine⟨nY,jZ A (jM (lG nT C) nT),?_,K⟩;have e:=AU (r.take (pg b.toNat));rw[hl]at e;unfold vk;rw[E,e,u8e (b:=b) rfl,Nat.add_comm 1,jY]
def Si(l:List Ax):rQ (l.take 9)=rQ l:=by
 cases l with
 |nil=>rfl
 |cons b r=>
  have C:=xV b.toNat;rw[jY,rQ,rQ,List.take_take,mr C,kD];by_cases A:r.length<pg b.toNat;.rw[AC (show min 8 r.length<_ by omega),AC A]
  .rw[As (show¬min 8 r.length<_ by omega),As A]
end
section
open Go.RowKit
def n3(t:Nat×Nat×Nat):jC:=nJ #[Y nN t.1,Y X t.2.1,Y X t.2.2]
structure xW(w:M):Prop where
 a:w.cell? (Z 0 0 V)=U (Y X 2)
 b:w.cell? (Z 0 1 V)=U (Y X 4)
 c:w.cell? (Z 0 2 V)=U (Y X 8)
def xW.at_{w:M}(h:xW w)(b:Nat)(A:253<=b)(C:b<256):w.cell? (Z 0 (b - 253) V)=U (Y X (pg b)):=by
 rcases(show b=253\/b=254\/b=255 by omega)with rfl|rfl|rfl
 .exact h.a
 .exact h.b
 .exact h.c
def xW.below{w w':M}{B:Nat}(h:xW w)(hb:jD B w w')(hB:0<B):xW w':=
 ⟨(hb.cell (p:=(Z _ 0 V)) hB).trans h.a,(hb.cell (p:=(Z _ 1 V)) hB).trans h.b,(hb.cell (p:=(Z _ 2 V)) hB).trans h.c⟩
def xW.lt{w:M}(h:xW w):0<w.heap.size:=by
 rcases kQ 0 w.heap.size with A|A
 .exact A
 .have:=h.a
  simp[mV,Array.getElem?_eq_none A]at this
def Jh(n:Nat)(w:M)(hn:n<18446744073709551616):
  jG jy 245 #[Y nN n] w λe w'=>e=nK (Y .u8 (qZ n))/\w=w':=by
 by_cases A:n<253
 .have e:=H (Jg n A)
  go_in;go_wp2;go_returns;exact⟨by rw[e.out];exact congrArg kZ (congrArg (lC .u8) K),rfl⟩
 .have I:At ((n:Int)<253)=O:=nY
  by_cases C:n<65536
  .have e:jI (qZ n=253):=by unfold jI qZ;rw[As A,AC C]
   have g2:At ((n:Int)<65536)=R:=nY;clear A C hn;go_in;exact yV
  .have g2:At ((n:Int)<65536)=O:=nY
   by_cases E:n<4294967296
   .have e:jI (qZ n=254):=by unfold jI qZ;rw[As A,As C,AC E]
    have g3:At ((n:Int)<4294967296)=R:=nY;clear A C E hn;go_in;exact yV
   .have g3:At ((n:Int)<4294967296)=O:=nY
    have e:jI (qZ n=255):=by unfold jI qZ;rw[As A,As C,As E]
    clear A C E hn;go_in;exact yV
def PH(n:Nat)(w:M)(hn:n<18446744073709551616)(A:xW w):
  jG jy 208 #[Y nN n] w λe w'=>e=nK (G ⟨(vk n).toArray⟩)/\jD w.heap.size w w':=by
 have c1:=H (Jh n w hn);have hlt:=Zt n;by_cases C:n<253
 .have e:=H (UN n C)
  have e2:=Jg n C;rw[e2]at c1;clear hlt e2;have E:=λw=>Iq Cr w [jU n] #[Y .u8 n] 1 rfl (yZ rfl K) nT
  go_in;go_wp2_with fail;refine c1.mono ?_;rintro e w' ⟨rfl,rfl⟩;go_wp2;go_returns;exact⟨by rw[e.out];rfl,(jE _ _).alloc (jB _) _⟩
 .have I:=Zv n K
  have af:=xW.at_ A (qZ n) I hlt;have hk:=xV (qZ n);have J:1<=pg (qZ n):=by unfold pg;rw[As K];(repeat' split)<;>omega
  have c2:=H (λw=>vQ n (pg (qZ n)) w hn J hk (a8M n hn K));have e:jI (vk n=jU (qZ n)::vL (pg (qZ n)) n):=rfl;have hlen:=pY (pg (qZ n)) n;generalize vL (pg (qZ n)) n=tl at*;generalize pg (qZ n)=k at*;generalize qZ n=hd at*;have hsz:(⟨tl.toArray⟩:An).size=k:=by rw[size_mk];exact hlen
  generalize htl:(⟨tl.toArray⟩:An)=TL at*;have aa:=H htl;have ae:TL.size<=8:=K;have hG:=xW.lt A;clear htl hlen hsz A;have E:=λw=>Iq Cr w [jU hd] #[Y .u8 hd] 1 rfl (yZ rfl K) nT
  have N:(hd:Int) - 253<3:=K;go_in;go_wp2_with fail;refine c1.mono ?_;rintro e w' ⟨rfl,rfl⟩;go_wp2_with fail;refine(c2 _).mono ?_;rintro e w1 ⟨rfl,hb⟩;go_wp2;go_returns;exact⟨by rw[e.out,<-aa.out];exact congrArg (λb:An=>kZ (Value.string b)) (R5 nX),((jE _ _).alloc (jB _) _).trans (hb.mono nX)⟩
def toList_cons(s:An)(h:0<s.size):s.data.toList=s[0]::s.data.toList.drop 1:=by
 exact UI
def Ji(s:An)(k:Nat):(s.extract 1 (1+k)).data.toList=(s.data.toList.drop 1).take k:=by
 rw[mF,show 1+k - 1=k by omega]
def Sj(s:An)(h:0<s.size):s.toList.isEmpty=O:=by
 rw[Lib.toList_data,toList_cons s h];rfl
def Zw(s:An)(h:0<s.size)(A:s[0].toNat<253):rQ s.data.toList=(s[0].toNat,1,0):=by
 rw[toList_cons s h,rQ,AC A]
def Zx(s:An)(h:0<s.size)(A:253<=s[0].toNat)(C:s.size<1+pg s[0].toNat):rQ s.data.toList=(0,0,2):=by
 rw[toList_cons s h,rQ,As K,AC (by rw[kG];simp;omega)]
def Zy(s:An)(h:0<s.size)(C:253<=s[0].toNat)(E:1+pg s[0].toNat<=s.size)(A:qZ (pQ (s.extract 1 (1+pg s[0].toNat)).data.toList)≠s[0].toNat):rQ s.data.toList=(0,0,3):=by
 rw[Ji]at A;rw[toList_cons s h,rQ,As K,As (by rw[kG];simp;omega),AC A]
def Zz(s:An)(h:0<s.size)(C:253<=s[0].toNat)(E:1+pg s[0].toNat<=s.size)(A:qZ (pQ (s.extract 1 (1+pg s[0].toNat)).data.toList)=s[0].toNat):rQ s.data.toList=(pQ (s.extract 1 (1+pg s[0].toNat)).data.toList,1+pg s[0].toNat,0):=by
 rw[Ji]at A|-;rw[toList_cons s h];show rQ (s[0]::s.data.toList.drop 1)=_;rw[rQ,As K,As (by rw[kG];simp;omega),As (λh=>h A)];rfl
def WQ(s:An)(w:M)(hs:s.size<=jN)(I:xW w):
  jG jy 246 #[G s] w λe w'=>e=nK (n3 (rQ s.data.toList))/\w=w':=by
 unfold jN at hs;by_cases h0:s.size=0
 .have e:s=⟨#[]⟩:=R5 (mh.1 (by simpa using h0))
  subst e;go_in;exact zG
 .have hp:0<s.size:=K
  have ag:=Sj s hp;clear h0;have hb:s[0].toNat<=255:=by have:=s[0].toNat_lt;omega
  by_cases J:s[0].toNat<253
  .have e:=H (Zw s hp J)
   go_in;exact yV
  .have A:253<=s[0].toNat:=K
   have ah:=xW.at_ I s[0].toNat A K;have hk:=xV s[0].toNat;have ai:1<=pg s[0].toNat:=by unfold pg;rw[As K];(repeat' split)<;>omega
   have e1:=H (Zx s hp A);have e2:=H (Zy s hp A);have e3:=H (Zz s hp A);generalize pg s[0].toNat=k at*;have aj:(s[0].toNat:Int) - 253<3:=K;have hd2:At ((s[0].toNat:Int)<253)=O:=nY;clear J I;by_cases E:s.size<1+k
   .have e:=H (e1 E)
    go_in;exact yV
   .have g2:1+k<=s.size:=K
    have N:(s.extract 1 (1+k)).size=k:=by rw[jP];omega
    have c1:=λw=>um (s.extract 1 (1+k)) w K K
    have hn:pQ (s.extract 1 (1+k)).data.toList<18446744073709551616:=by
     have h:=sZ (s.extract 1 (1+k)).data.toList;have hl:(s.extract 1 (1+k)).data.toList.length=k:=by rw[<-l9];exact N
     rw[hl]at h;exact jZ h (IB k hk)
    have c2:=λw=>Jh _ w hn
    generalize pQ (s.extract 1 (1+k)).data.toList=n at*;have aa:=H c1;have ae:=H c2;clear c1 c2 N;generalize qZ n=hd at*;by_cases C:hd=s[0].toNat
    .have e:=H (e3 g2 C)
     have af:((hd:Int) !=(s[0].toNat:Int))=O:=by rw[bne_eq_false_iff_eq];omega
     clear E C e1 e2 e3;go_in;go_wp2_with fail;refine(aa _).mono ?_;rintro e w' ⟨rfl,rfl⟩;go_wp2_with fail;refine(ae _).mono ?_;rintro e w' ⟨rfl,rfl⟩;exact yV
    .have e:=H (e2 g2 C)
     have af:((hd:Int) !=(s[0].toNat:Int))=R:=EX;clear E C e1 e2 e3;go_in;go_wp2_with fail;refine(aa _).mono ?_;rintro e w' ⟨rfl,rfl⟩;go_wp2_with fail;refine(ae _).mono ?_;rintro e w' ⟨rfl,rfl⟩;exact yV
def KG(t:Nat×Nat×Nat)(most:Nat):Nat:=if t.2.2=0/\most<t.1 then 5 else t.2.2
def RS.comp(r:RS)(most:Nat):RS×Nat:=
 if r.f=0 then
  (λt:Nat×Nat×Nat=>if KG t most=0 then((⟨r.t,r.p+t.2.1,0⟩:RS),t.1)else(⟨r.t,r.p,KG t most⟩,0)) (rQ (r.t.data.toList.drop r.p))
 else(r,0)
def zR{t:An}{p n k:Nat}(h:rQ (t.data.toList.drop p)=(n,k,0))(hp:p<=t.size):p+k<=t.size:=by
 have A:=(PG h).1;rw[kG]at A;have:t.data.toList.length=t.size:=nX;omega
def RS.Ok.comp{r:RS}(h:r.Ok)(most:Nat):(r.comp most).1.Ok:=by
 obtain⟨A,C⟩:=h;unfold RS.comp;split
 .generalize ht:rQ (r.t.data.toList.drop r.p)=t
  obtain⟨n,k,e⟩:=t;simp only[];split
  .rename_i I he
   have E:e=0:=by unfold KG at he;simp only at he;split at he<;>omega
   subst E;exact⟨zR ht A,C⟩
  .exact⟨A,C⟩
 .exact⟨A,C⟩
def Sk(r:RS)(most:Nat):(r.comp most).1.t=r.t:=by
 unfold RS.comp;split
 .generalize rQ (r.t.data.toList.drop r.p)=t
  simp only[];split<;>rfl
 .rfl
def UO(h:p:=by
 have key:∀i,w'.cell? (Z 0 i V)=w.cell? (Z 0 i V):=λi=>by simp only[mV,hb]
 exact⟨(key 0).trans h.a,(key 1).trans h.b,(key 2).trans h.c⟩):p:=h
def xW.upd{w w':M}{b:Nat}(h:xW w)(ao:pX b w w')(A:0≠b):xW w':=by
 have hb:=ao.block 0 h.lt (by simpa using A);exact UO
def Sl(h:p:=by
 go_in;go_wp2_with fail;refine cf.mono ?_;rintro e w' ⟨rfl,rfl⟩;simp only[];go_wp2_with fail;refine ca.mono ?_;rintro e w2 ⟨rfl,u2,hb2⟩;have hT2:=H (HT.upd u2 hG);go_wp2_with fail;refine(CN _ hT2).mono ?_;rintro e w' ⟨rfl,rfl⟩;go_wp2_with fail;refine(CX _ hb2).mono ?_;rintro e w3 ⟨rfl,u3,hb3⟩;go_wp2;go_returns;exact⟨rfl,u2.trans u3,hb3⟩):p:=h
def WR(b:Nat)(r:RS)(most:Nat)(w:M)(ah:r.Ok)(hb:xg w b r)(ay:most<18446744073709551616)(E:xW w)(hG:0≠b):
  jG jy 210 #[nG (U (Z b 0 V)),Y nN most] w (AO b w (r.comp most).1 (Y nN (r.comp most).2)):=by
 obtain⟨t,p,f⟩:=r;obtain⟨J,aa⟩:=ah;simp only at J aa;have cf:=H (qD b ⟨t,p,f⟩ w hb);have HT:=H E;clear E;by_cases N:f=0
 .subst N
  have ca:=H (Mt b ⟨t,p,0⟩ 9 w ⟨J,aa⟩ hb);have af:RS.ahead ⟨t,p,0⟩ 9=t.extract p (p+min 9 (t.size - p)):=by unfold RS.ahead;rw[AC rfl,AC nT];rfl
  have ae:=λw E=>WQ (t.extract p (p+min 9 (t.size - p))) w (by unfold jN;rw[jP];omega) E
  have en:rQ (t.extract p (p+min 9 (t.size - p))).data.toList=rQ (t.data.toList.drop p):=by
   rw[mF,<-Si (t.data.toList.drop p)];congr 1;rw[show p+min 9 (t.size - p) - p=min 9 (t.size - p)by omega];by_cases ag:9<=t.size - p;.rw[mr ag]
   .have hl:(t.data.toList.drop p).length<=t.size - p:=by rw[kG];simp
    rw[Nat.min_eq_right K,kS hl,kS K]
  rw[en]at ae;rw[af]at ca;generalize t.extract p (p+min 9 (t.size - p))=x at*;have A:∀T,rQ (t.data.toList.drop p)=T->RS.comp ⟨t,p,0⟩ most=if KG T most=0 then((⟨t,p+T.2.1,0⟩:RS),T.1)else(⟨t,p,KG T most⟩,0):=by
   intro T E;unfold RS.comp;rw[AC rfl,E]
  have hsz:=λn k (h:rQ (t.data.toList.drop p)=(n,k,0))=>zR h J
  generalize rQ (t.data.toList.drop p)=T at*;have A:=A T rfl;obtain⟨n,k,e⟩:=T;clear af en;have CN:jI (∀w,xW w->jG jy 246 #[G x] w λai w'=>ai=nK (nJ #[Y nN n,Y X k,Y X e])/\w=w'):=ae;clear ae;by_cases he:e=0
  .subst he
   have ak:=hsz n k rfl;clear hsz;by_cases I:most<n
   .have e5:KG (n,k,0) most=5:=AC ⟨rfl,I⟩
    rw[e5,As nT]at A;rw[A];have C:=λw h=>uO b ⟨t,p,0⟩ 5 w h
    rw[show RS.fail ⟨t,p,0⟩ 5=⟨t,p,5⟩from rfl]at C;have CX:=H C;clear C A e5;exact Sl
   .have e5:KG (n,k,0) most=0:=As (λh=>I h.2)
    rw[e5,AC rfl]at A;rw[A];have aj:At (most<n)=O:=nY;have C:=λw h=>qJ b ⟨t,p,0⟩ k w ⟨J,aa⟩ h
    rw[show RS.take ⟨t,p,0⟩ k=(⟨t,p+k,0⟩,t.extract p (p+k))from by unfold RS.take;rw[AC rfl,As K,As (by simp only[];omega)];rfl]at C;have CX:=H C;clear C A e5 I;exact Sl
  .have e5:KG (n,k,e) most=e:=As (λh=>he h.1)
   rw[e5,As he]at A;rw[A];have au:((e:Int)==0)=O:=vo;have av:((e:Int) !=0)=R:=EX;have C:=λw h=>uO b ⟨t,p,0⟩ e w h
   rw[show RS.fail ⟨t,p,0⟩ e=⟨t,p,e⟩from rfl]at C;have CX:=H C;clear C A e5 he;exact Sl
 .have e:RS.comp ⟨t,p,f⟩ most=(⟨t,p,f⟩,0):=by unfold RS.comp;rw[As N]
  rw[e];have ax:((f:Int) !=0)=R:=by rw[bne_iff_ne];exact N
  clear e N;go_in;go_wp2_with fail;refine cf.mono ?_;rintro e w' ⟨rfl,rfl⟩;simp only[];go_wp2;go_returns;exact⟨rfl,pX.refl b w,hb⟩
def uy(b:An):nS IL:=.node ⟨b.data.toList,O⟩ []
def Bi(b:An):Nat:=if 1<=b.size/\b.size<=8 then pQ b.data.toList else 0
def zS(n:Nat):nS IL:=.node ⟨(AB n).reverse,O⟩ []
def sG(s:List (nS IL)):nS IL:=.node ⟨[],R⟩ s
abbrev RdV:=nS IL×RS×Nat
def pR(f:nS TL->RS->Nat->RdV):List (nS TL×Bool)->RS->Nat->List (nS IL)×RS×Nat
 |[],r,l=>([],r,l)
 |t::ts,r,l=>if(t.2=R\/r.p<r.t.size)/\r.f=0 then
   ((f t.1 r l).1::(pR f ts (f t.1 r l).2.1 (f t.1 r l).2.2).1,(pR f ts (f t.1 r l).2.1 (f t.1 r l).2.2).2)else([],r,l)
def uV(s:List (nS TL))(tail:Int):List (nS TL×Bool):=s.mapIdx λi t=>(t,At ((i:Int)<s.length - tail))
def pJ:Nat->nS TL->RS->Nat->RdV
 |0,_,r,l=>(uy ⟨#[]⟩,r.fail 4,l)
 |d+1,.node a s,r,l=>
  if l=0 then(uy ⟨#[]⟩,r.fail 4,0)
  else if a.kind=1 then(zS (Bi (r.take a.size).2),(r.take a.size).1,l - 1)
  else if a.kind=2 then(uy (r.take a.size).2,(r.take a.size).1,l - 1)
  else if a.kind=3 then(uy ((r.comp a.size.toNat).1.take (r.comp a.size.toNat).2).2,((r.comp a.size.toNat).1.take (r.comp a.size.toNat).2).1,l - 1)
  else if a.kind=4 then match s with
   |t::_=>(sG (pR (pJ d) (ky (r.comp a.size.toNat).2 (t,R)) (r.comp a.size.toNat).1 (l - 1)).1,(pR (pJ d) (ky (r.comp a.size.toNat).2 (t,R)) (r.comp a.size.toNat).1 (l - 1)).2)
   |[]=>(uy ⟨#[]⟩,r.fail 4,l)
  else(sG (pR (pJ d) (uV s a.tail) r (l - 1)).1,(pR (pJ d) (uV s a.tail) r (l - 1)).2)
structure QX(r r':RS):Prop where
 t:r'.t=r.t
 f:r'.f=0->r.f=0
 ok:r.Ok->r'.Ok
def QX.refl(r:RS):QX r r:=⟨rfl,id,id⟩
def QX.trans{a b c:RS}(h:QX a b)(k:QX b c):QX a c:=⟨k.t.trans h.t,λA=>h.f (k.f A),λho=>k.ok (h.ok ho)⟩
def Ef(r:RS)(x:Int):QX r (r.fail x):=by
 refine⟨?_,?_,λh=>h.fail x⟩;.unfold RS.fail;split<;>rfl
 .intro h;unfold RS.fail at h;split at h<;>assumption
def wI(r:RS)(n:Int):QX r (r.take n).1:=by
 refine⟨?_,?_,λh=>h.take n⟩;.unfold RS.take;(repeat' split)<;>rfl
 .intro h
  unfold RS.take at h;split at h<;>assumption
def PI(r:RS)(n:Nat):QX r (r.comp n).1:=by
 refine⟨Sk r n,?_,λh=>h.comp n⟩;intro h;unfold RS.comp at h;split at h<;>assumption
def xD{r:RS}{n:Int}(C:r.Ok)(h:(r.take n).1.f=0):0<=n/\((r.take n).2.size:Int)=n:=by
 obtain⟨E,I⟩:=C;unfold RS.take at h|-;split at h
 .rename_i A
  rw[AC A];split at h;.simp at h
  .rename_i hn
   rw[As hn];split at h;.simp at h
   .rename_i hs
    rw[As hs];refine⟨K,?_⟩;simp only[jP];omega
 .rename_i A
  exact absurd h A
def BN{r:RS}{n:Nat}(h:(r.comp n).1.f=0):(r.comp n).2<=n:=by
 unfold RS.comp at h|-;split at h
 .rename_i A
  rw[AC A];generalize rQ (r.t.data.toList.drop r.p)=t at*;dsimp only at h|-;split at h
  .rename_i h0
   rw[AC h0];unfold KG at h0;dsimp only;split at h0;.cases h0
   .rename_i C
    omega
  .rename_i h0
   rw[As h0];exact ko _
 .rename_i A
  exact absurd h A
def zT{f:nS TL->RS->Nat->RdV}(A:∀t r l,QX r (f t r l).2.1):∀(ts:List (nS TL×Bool))(r:RS)(l:Nat),QX r (pR f ts r l).2.1
 |[],r,l=> .refl r
 |t::ts,r,l=>by
  unfold pR;split;.exact(A _ _ _).trans (zT A ts _ _)
  .exact .refl r
def yF:∀(d:Nat)(t:nS TL)(r:RS)(l:Nat),QX r (pJ d t r l).2.1
 |0,_,r,l=>Ef _ _
 |d+1,.node a s,r,l=>by
  unfold pJ;split;.exact Ef _ _
  .split
   .exact wI _ _
   .split
    .exact wI _ _
    .split
     .exact(PI _ _).trans (wI _ _)
     .split
      .cases s with
       |nil=>exact Ef _ _
       |cons t ts=>exact(PI _ _).trans (zT (yF d) _ _ _)
      .exact zT (yF d) _ _ _
structure RdG(t:nS TL)(l:Nat)(y:RdV):Prop where
 count:y.1.count+y.2.2=l
 deep:y.1.deep<=t.deep
 right:y.1.all p9=R
 fits:rH y.1 t=R
def Na{f:nS TL->RS->Nat->RdV}(hk:∀t r l,QX r (f t r l).2.1):∀(ts:List (nS TL×Bool))(r:RS)(l:Nat),r.Ok->(∀t,t∈ts->∀r l,r.Ok->(f t.1 r l).2.1.f=0->RdG t.1 l (f t.1 r l))->(pR f ts r l).2.1.f=0->
  nS.oz (pR f ts r l).1+(pR f ts r l).2.2=l/\nS.pF p9 (pR f ts r l).1=R/\(∀(i:Nat)(x:nS IL),(pR f ts r l).1[i]? =U x->∃t:nS TL×Bool,ts[i]? =U t/\rH x t.1=R/\x.deep<=t.1.deep)/\
   (pR f ts r l).1.length<=ts.length/\(∀t:nS TL×Bool,ts[(pR f ts r l).1.length]? =U t->t.2=O)
 |[],r,l,_,_,_=>⟨by simp[pR,nS.oz],rfl,λi x h=>by simp[pR]at h,jB _,λt h=>by simp at h⟩
 |t::ts,r,l,ho,hg,h=>by
  unfold pR at h|-;split at h
  .rename_i hc
   rw[AC hc];have J:(f t.1 r l).2.1.f=0:=(zT hk ts _ _).f h;have C:=hg t nX r l ho J;obtain⟨af,N,aa,ag,ae⟩:=Na hk ts _ _ ((hk t.1 r l).ok ho) (λt ht=>hg t (by simp[ht])) h;refine⟨?_,?_,?_,?_,?_⟩
   .simp only[nS.oz]
    have:=C.count;omega
   .simp only[nS.pF,C.right,N,Bool.and_self]
   .intro i x E
    cases i with
    |zero=>
     simp at E;subst E;exact⟨t,rfl,C.fits,C.deep⟩
    |succ i=>
     simp at E;obtain⟨I,e1,e2⟩:=aa i x E;exact⟨I,by simpa using e1,e2⟩
   .simp only[j4];omega
   .intro I A
    simp only[j4,jT]at A;exact ae I A
  .rename_i hc
   rw[As hc];refine⟨by simp[nS.oz],rfl,λi x h=>by simp at h,ko _,?_⟩;intro I A;simp at A;subst A;cases ht:t.2 with
   |false=>rfl
   |true=>exact absurd ⟨.inl ht,h⟩ hc
def Jj{t:nS TL}:∀(s:List (nS IL))(i:Nat),(∀k x,s[k]? =U x->∃y,qm t (i+k)=U y/\rH x y=R)->sF s t i=R
 |[],_,_=>rfl
 |x::xs,i,h=>by
  obtain⟨y,A,C⟩:=h 0 x rfl;simp only[sF];rw[nk]at A;rw[A];dsimp only;rw[C,mQ];exact Jj xs (i+1) λk x E=>by
   obtain⟨y,A,C⟩:=h (k+1) x (by simpa using E);exact⟨y,by rw[<-A];congr 1;omega,C⟩
def Jk{D:Nat}:∀(s:List (nS α)),(∀x,x∈s->x.deep<=D)->nS.pz s<=D
 |[],_=>ko _
 |x::xs,h=>by
  simp only[nS.pz];have A:=h x nX;have C:=Jk xs λy hy=>h y (by simp[hy])
  omega
def BO:∀{s:List (nS α)}{x:nS α},x∈s->x.deep<=nS.pz s
 |[],_,h=>by cases h
 |y::ys,x,h=>by
  simp only[nS.pz];rcases l5.1 h with rfl|h
  .omega
  .have:=BO h;omega
def Jl(n:Nat)(hn:n<18446744073709551616):pM (AB n).reverse=(n,0):=by
 by_cases c:n=0;.subst c;rw[tH];rfl
 .obtain⟨l,b,E,I⟩:=YB n K
  have A:=AX 8 n (jZ hn nT);have C:=Oz n;rw[E]at A C|-;rw[List.reverse_append,List.reverse_singleton,List.singleton_append,pM,As (by simp at A|-;omega),As I];unfold tX;rw[List.reverse_cons,List.reverse_reverse,C]
def Ho(b:An):Bi b<18446744073709551616:=by
 unfold Bi;split
 .rename_i h
  have A:=sZ b.data.toList;have C:b.data.toList.length=b.size:=nX;rw[C]at A;have E:(256:Nat)^b.size<=256^8:=lG nT h.2;omega
 .decide
def Jm(a:IL)(t:nS TL)(h:a.list=O):(nS.node a []).count=1/\(nS.node a []).deep<=t.deep/\(nS.node a []).all p9=R:=by
 refine⟨by simp[nS.count,nS.oz],?_,?_⟩
 .have:=nS.IY t
  simp only[nS.deep,nS.pz];omega
 .simp[nS.all,nS.pF,p9,tu,h]
def Fx(a:IL)(t:nS TL)(h:qX t a 0=R):rH (.node a []) t=R:=by
 simp only[rH,sF,List.length_nil,h,Bool.and_self]
def UQ(h:p:=by
 unfold uV at hk';rw[List.getElem?_mapIdx]at hk';obtain⟨t0,ht0,rfl⟩:=Option.map_eq_some_iff.1 hk';exact⟨ht0,rfl⟩):p:=h
def Nb:∀(d:Nat)(t:nS TL)(r:RS)(l:Nat),t.all oJ=R->t.deep<=d->r.Ok->(pJ d t r l).2.1.f=0->RdG t l (pJ d t r l)
 |0,t,r,l,_,hd,_,_=>absurd (nS.IY t) K
 |d+1,.node a s,r,l,ax,hd,ho,h=>by
  have I:∀{r:RS},(r.fail 4).f≠0:=by
   intro r h;unfold RS.fail at h;split at h;.simp at h
   .rename_i h0;exact h0 h
  simp only[nS.all,jJ]at ax;obtain⟨ai,J⟩:=ax;have hk:∀k,a.kind=k->∀x m,qX (.node a s) x m=if k=1 then yC a x else if k=2 then ze a x else if k=3 then zf a x else if k=4 then Ak a x m else if k=5 then yD a s.length x m else O:=λk h x m=>by unfold qX;rw[nS.o9,h];rfl
  unfold oJ qo at ai;simp only[decide_eq_true_eq]at ai;have aj:nS.pz s<=d:=by simp only[nS.deep]at hd;omega
  unfold pJ at h|-;by_cases hl:l=0;.rw[AC hl]at h;exact absurd h I
  .rw[As hl]at h|-
   by_cases N:a.kind=1
   .rw[AC N]at h|-
    dsimp only at h|-;have ak:=xD ho h;obtain⟨ay,aa,ae⟩:=Jm ⟨(AB (Bi (r.take a.size).2)).reverse,O⟩ (.node a s) rfl;refine⟨?_,aa,ae,Fx _ _ ?_⟩
    .show(zS _).count+(l - 1)=l
     unfold zS;omega
    .rw[hk 1 N,AC rfl]
     unfold yC okL;dsimp only;rw[Jl _ (Ho _)];have hsz:(AB (Bi (r.take a.size).2)).length<=(r.take a.size).2.size:=by
      refine AX _ _ ?_;unfold Bi;split
      .have N:=sZ (r.take a.size).2.data.toList
       have C:(r.take a.size).2.data.toList.length=(r.take a.size).2.size:=nX;rwa [C]at N
      .exact Nat.pos_of_ne_zero nX
     simp only[List.length_reverse,Bool.not_false,mQ,jJ,decide_eq_true_eq];exact⟨rfl,K⟩
   .rw[As N]at h|-
    by_cases C:a.kind=2
    .rw[AC C]at h|-
     dsimp only at h|-;have ak:=xD ho h;obtain⟨ay,aa,ae⟩:=Jm ⟨(r.take a.size).2.data.toList,O⟩ (.node a s) rfl;refine⟨?_,aa,ae,Fx _ _ ?_⟩
     .show(uy _).count+(l - 1)=l
      unfold uy;omega
     .rw[hk 2 C,As nT,AC rfl]
      unfold ze;dsimp only;have C:(r.take a.size).2.data.toList.length=(r.take a.size).2.size:=nX;rw[C];simp only[Bool.not_false,mQ,decide_eq_true_eq];exact ak.2
    .rw[As C]at h|-
     by_cases au:a.kind=3
     .rw[AC au]at h|-
      dsimp only at h|-;have hc:=BN ((wI _ _).f h);have ak:=xD (ho.comp _) h;generalize (r.comp a.size.toNat).1.take (r.comp a.size.toNat).2=y at*;obtain⟨ay,aa,ae⟩:=Jm ⟨y.2.data.toList,O⟩ (.node a s) rfl;refine⟨?_,aa,ae,Fx _ _ ?_⟩
      .show(uy _).count+(l - 1)=l
       unfold uy;omega
      .rw[hk 3 au,As nT,As nT,AC rfl]
       unfold zf;dsimp only;have C:y.2.data.toList.length=y.2.size:=nX;rw[C];simp only[Bool.not_false,mQ,decide_eq_true_eq];omega
     .rw[As au]at h|-
      by_cases af:a.kind=4
      .rw[AC af]at h|-
       cases s with
       |nil=>exact absurd h I
       |cons t ts=>
        dsimp only at h|-;have hn:ts=[]:=by
         have:(t::ts).length=1:=K;simpa using this
        subst hn;simp only[nS.pF,Bool.and_true]at J;have az:t.deep<=d:=by simp only[nS.pz]at aj;omega
        have aA:=(zT (yF d) _ _ _).f h;have hc:=BN aA;obtain⟨aG,g2,g3,g4,aB⟩:=Na (yF d) _ _ _ (ho.comp _) (λA ag r l ho av=>by
         obtain⟨_,rfl⟩:=List.mem_replicate.1 ag;exact Nb d t r l J az ho av) h
        generalize pR (pJ d) (ky (r.comp a.size.toNat).2 (t,R)) (r.comp a.size.toNat).1 (l - 1)=z at*;rw[List.length_replicate]at g4;refine⟨?_,?_,?_,?_⟩
        .show(sG z.1).count+z.2.2=l
         simp only[sG,nS.count];omega
        .show(sG z.1).deep<=_
         simp only[sG,nS.deep,nS.pz];have:=Jk (D:=t.deep) z.1 λx E=>by
          obtain⟨i,hi⟩:=List.getElem?_of_mem E;obtain⟨A,e1,_,e3⟩:=g3 i x hi;obtain⟨_,rfl⟩:=List.mem_replicate.1 (kE e1);exact e3
         omega
        .show(sG z.1).all p9=R
         simp only[sG,nS.all,g2,Bool.and_true];simp[p9,tu]
        .show rH (sG z.1) _=R
         simp only[sG,rH,jJ];refine⟨?_,Jj _ _ λk x E=> ?_⟩
         .rw[hk 4 af,As nT,As nT,As nT,AC rfl]
          unfold Ak;simp only[mQ,decide_eq_true_eq];omega
         .obtain⟨A,e1,e2,_⟩:=g3 k x E
          obtain⟨_,rfl⟩:=List.mem_replicate.1 (kE e1);refine⟨t,?_,e2⟩;unfold qm;rw[nS.o9,AC af];rfl
      .rw[As af]at h|-
       have aH:a.kind=5:=K;obtain⟨aG,g2,g3,g4,aB⟩:=Na (yF d) _ _ _ ho (λA ag r l ho av=>by
        obtain⟨i,hi⟩:=List.getElem?_of_mem ag;unfold uV at hi;rw[List.getElem?_mapIdx]at hi;obtain⟨t0,ht0,rfl⟩:=Option.map_eq_some_iff.1 hi;have aC:=kE ht0;exact Nb d t0 r l (zh J aC) (jM (BO aC) aj) ho av) h
       have ah:∀{k:Nat}{A:nS TL×Bool},(uV s a.tail)[k]? =U A->s[k]? =U A.1/\A.2=At ((k:Int)<s.length - a.tail):=by
        intro k A hk';exact UQ
       have hlen:(uV s a.tail).length=s.length:=by simp[uV]
       generalize pR (pJ d) (uV s a.tail) r (l - 1)=z at*;rw[hlen]at g4;refine⟨?_,?_,?_,?_⟩
       .show(sG z.1).count+z.2.2=l
        simp only[sG,nS.count];omega
       .show(sG z.1).deep<=_
        simp only[sG,nS.deep];have:=Jk (D:=nS.pz s) z.1 λx E=>by
         obtain⟨i,hi⟩:=List.getElem?_of_mem E;obtain⟨A,e1,_,e3⟩:=g3 i x hi;exact jM e3 (BO (kE (ah e1).1))
        omega
       .show(sG z.1).all p9=R
        simp only[sG,nS.all,g2,Bool.and_true];simp[p9,tu]
       .show rH (sG z.1) _=R
        simp only[sG,rH,jJ];refine⟨?_,Jj _ _ λk x E=> ?_⟩
        .rw[hk 5 aH,As nT,As nT,As nT,As nT,AC rfl]
         unfold yD;simp only[mQ,jJ,decide_eq_true_eq];refine⟨g4,?_⟩;rcases kQ z.1.length s.length with hlt|aJ
         .have aD:=jL (show z.1.length<(uV s a.tail).length by omega)
          have aI:=aB _ aD;have aF:=(ah aD).2;rw[aI]at aF;have aK:=of_decide_eq_false aF.symm;omega
         .omega
        .obtain⟨A,e1,e2,_⟩:=g3 k x E
         refine⟨A.1,?_,e2⟩;unfold qm;rw[nS.o9,As af,mU];exact(ah e1).1
def Jn(t:nS TL)(s:An)(items:Int):Except Nat (nS IL×Nat):=
 if(pJ 8 t (RS.of s) (min items 1024).toNat).2.1.f≠0 then .error (pJ 8 t (RS.of s) (min items 1024).toNat).2.1.f.toNat
 else .ok ((pJ 8 t (RS.of s) (min items 1024).toNat).1,(pJ 8 t (RS.of s) (min items 1024).toNat).2.1.p)
def KH(t:nS TL)(s:An)(items:Int):Except Nat (nS IL):=match Jn t s items with
 | .error er=> .error er
 | .ok y=>if y.2<s.size then .error 3 else .ok y.1
def Sm{t:nS TL}{s:An}{items:Int}{x:nS IL}(ht:qc t=R)(hi:1<=items)(hs:s.size<=jN)(h:KH t s items=.ok x):
  qY t x=0/\si x=R/\x.deep<=8/\(x.count:Int)<=items:=by
 unfold KH at h;split at h;.cases h
 .rename_i y hy
  split at h;.cases h
  .cases h
   unfold Jn at hy;split at hy;.cases hy
   .rename_i E
    cases hy;have A:=ht;unfold qc at A;simp only[jJ,decide_eq_true_eq]at A;have hg:=Nb 8 t (RS.of s) (min items 1024).toNat A.2 A.1.2 (RS.Ok.of (by unfold jN at hs;omega)) (by simpa using E);generalize pJ 8 t (RS.of s) (min items 1024).toNat=y at*;have I:=hg.count;have J:=hg.deep;dsimp only;have C:si y.1=R:=by
     unfold si;simp only[jJ,decide_eq_true_eq];exact⟨⟨hg.right,K⟩,K⟩
    refine⟨?_,C,K,K⟩;unfold qY;rw[AC ⟨ht,C⟩,AC hg.fits]
end
section
def Eg(l:List Ax)(ar:Except Nat (nS IL×Nat×Nat)):Except Nat (nS IL):=match ar with
 | .error er=> .error er
 | .ok y=>if y.2.1<l.length then .error 3 else .ok y.1
end
section
open Go.RowKit
structure Row where
 id:Nat
 name:An
 text:An
 ty:nS TL
structure G8 where
 name:An
 val:nS IL
def Dv(c:oO)(t:nS TL)(s:An):Except Nat (nS IL):=
 if c.fmt=1 then KH t s c.pq else Al t (Eg s.data.toList (xS (min c.dep 16).toNat s.data.toList (min c.pq 1024).toNat))
def ofF(c:oO)(rows:List Row)(f:vS):Option Row:=
 if c.fmt=1 then if f.id=0 then rows.find? λr=>At (r.name=f.name)else V else if f.name.size=0 then rows.find? λr=>At (r.id=f.id)else V
def Dw(c:oO)(rows:List Row)(f:vS):Except Nat G8:=match ofF c rows f with
 |none=> .error 11
 |some r=>match Dv c r.ty f.body with
  | .error er=> .error (if er=2 then 3 else er)
  | .ok x=> .ok ⟨r.name,x⟩
def ru(c:oO)(rows:List Row)(s:An)(mt:Option (Nat×MS)):Except Nat (G8×Nat)×Option (Nat×MS):=match pU c s mt with
 |(.error er,m2)=>(.error er,m2)
 |(.ok y,m2)=>match Dw c rows y.1 with
  | .error er=>(.error er,m2)
  | .ok m=>(.ok (m,y.2),m2)
structure ZA where
 told:List G8
 at_:Nat
 err:Nat
 mt:Option (Nat×MS)
def wP(c:oO)(rows:List Row)(s:An):Nat->Nat->Option (Nat×MS)->ZA
 |0,p,mt=>⟨[],p,2,mt⟩
 |n+1,p,mt=>match ru c rows (s.extract p s.size) mt with
  |(.error er,m2)=>⟨[],p,er,m2⟩
  |(.ok y,m2)=>⟨y.1::(wP c rows s n (p+y.2) m2).told,(wP c rows s n (p+y.2) m2).at_,(wP c rows s n (p+y.2) m2).err,(wP c rows s n (p+y.2) m2).mt⟩
def Fy(c:oO)(rows:List Row)(s:An)(mt:Option (Nat×MS)):oQ (ru c rows s mt).2=oQ mt:=by
 have h:=A9 c s mt;unfold ru;split;.rename_i e1;rw[e1]at h;exact h
 .rename_i e1
  rw[e1]at h;split<;>exact h
def Typed(c:oO)(rows:List Row)(m:G8):Prop:=
 ∃r,r∈rows/\m.name=r.name/\qY r.ty m.val=0/\wY m.val (if c.fmt=1 then 16 else c.dep) c.pq=0
def Jo{c:oO}(hc:oL c=R){t:nS TL}(ht:qc t=R){s:An}(hs:s.size<=jN){x:nS IL}(h:Dv c t s=.ok x):
  qY t x=0/\wY x (if c.fmt=1 then 16 else c.dep) c.pq=0:=by
 obtain⟨_,_,_,⟨ae,hd2⟩,I,af⟩:=p8 hc;unfold Dv at h;split at h
 .rename_i E
  rw[AC E];obtain⟨J,N,ag,ah⟩:=Sm ht I hs h;refine⟨J,?_⟩;unfold wY;rw[AC N,As K,As K]
 .rename_i E
  rw[As E];unfold Al at h;rw[AC ht]at h;split at h;.cases h
  .rename_i ai A
   split at h
   .rename_i C
    cases h;refine⟨C,?_⟩;have aa:si x=R:=by
     unfold qY at C;split at C;.rename_i h;exact h.2
     .cases C
    unfold Eg at A;split at A;.cases A
    .rename_i y hy
     split at A;.cases A
     .cases A
      have aj:=D7 _ _ _ _ hy;unfold wY;rw[AC aa,As K,As K]
   .cases h
def Hq{c:oO}{rows:List Row}{f:vS}{r:Row}(h:ofF c rows f=U r):r∈rows:=by
 unfold ofF at h;split at h
 .split at h
  .exact mY h
  .cases h
 .split at h
  .exact mY h
  .cases h
def Sn{c:oO}(hc:oL c=R){rows:List Row}(C:∀r,r∈rows->qc r.ty=R){f:vS}(hs:f.body.size<=jN){m:G8}(h:Dw c rows f=.ok m):Typed c rows m:=by
 unfold Dw at h;split at h;.cases h
 .rename_i r E
  split at h;.cases h
  .rename_i x I
   cases h;have A:=Hq E;obtain⟨J,N⟩:=Jo hc (C r A) hs I;exact⟨r,A,rfl,J,N⟩
def Jp{f:Nat->Int}:∀ n k:Nat,ym f n k=0->∀j,j<n->f (k+j)=0
 |0,k,_,j,A=>by omega
 |n+1,k,h,j,A=>by
  unfold ym at h;split at h
  .rename_i h0
   cases j with
   |zero=>exact h0
   |succ j=>rw[show k+(j+1)=k+1+j by omega];exact Jp n (k+1) h j K
  .rename_i h0;exact absurd h h0
def ZB{s:An}{m most:Int}{y:vS×Nat}(h:uT s m most=.ok y):0<y.2/\y.2<=s.size/\y.1.body.size<=s.size/\y.1.id=0:=by
 unfold uT at h;split at h
 .rename_i h0
  cases h;have A:=Jp 9 0 h0 7 nT;have A:KA (At (24+tN s<=s.size)) 2=0:=A;have C:=r9 nT A;simp only[decide_eq_true_eq]at C;refine⟨K,C,?_,rfl⟩;simp only[jP];omega
 .cases h
def PK{l:List Ax}{N am:Nat}(h:oC l 0 0=(N,am,0)):0<am:=by
 cases am with
 |zero=>
  obtain⟨_,_,C,_⟩:=qN h;have A:=Q9 N;rw[C]at A;simp at A
 |succ am=>omega
def PL{most:Int}{s:An}(h:(o5 most s).e=0):0<(o5 most s).n/\(o5 most s).n<=s.size/\(o5 most s).body.size<=s.size:=by
 unfold o5 at*;split
 .rename_i h0
  rw[AC h0]at h;generalize E:o8 most s.data.toList=q at*;obtain⟨n,k,e⟩:=q;dsimp only at*;subst h0;have I:=vw E;have J:=PK I.1;split
  .rename_i A
   rw[AC A]at h;cases h
  .rename_i A
   rw[As A]at h;split
   .rename_i C
    refine⟨by dsimp only;omega,by dsimp only;omega,?_⟩;dsimp only;simp only[jP];omega
   .rename_i C
    rw[As C]at h;cases h
 .rename_i h0
  rw[As h0]at h;exact absurd h h0
def UR{size:Nat}:∀(f:Nat)(r:RS)(l:List Ax),r.Ok->l.length<=size->(vg size f r l).2.length<=size
 |0,r,l,_,hl=>hl
 |f+1,r,l,ho,hl=>by
  unfold vg;split
  .rename_i h
   obtain⟨_,_,A,C⟩:=yu ho hl h.1 h.2;exact UR f _ _ A C
  .exact hl
def ZC{s:An}{size:Nat}{l:List Ax}(hs:s.size<=jN)(h:y7 s size=.ok l):l.length<=size:=by
 unfold y7 at h;dsimp only at h;have A:=UR (size:=size) (s.size+1) (RS.of s) [] (RS.Ok.of (by unfold jN at hs;omega)) (ko _);generalize vg size (s.size+1) (RS.of s) []=y at*;generalize (if y.2.length<size then y.1.fail 2 else y.1)=r at h;split at h;.cases h
 .cases h;exact A
def Jq{s:An}{A:Int}{mt m2:Option (Nat×MS)}{l:List Ax}(hs:s.size<=jN)(h:ry s A mt=(.ok l,m2)):(l.length:Int)<=A:=by
 unfold ry at h;generalize tJ s.data.toList=q at*;obtain⟨n,k,e⟩:=q;dsimp only at h;split at h;.cases h
 .split at h
  .cases h
  .rename_i C
   split at h;.cases h
   .simp only[Prod.mk.injEq]at h
    have:=ZC (by simp only[jP];omega) h.1;omega
def zk{c:oO}(hc:oL c=R){s:An}(hs:s.size<=100000){mt:Option (Nat×MS)}{y:vS×Nat}(h:(pU c s mt).1=.ok y):0<y.2/\y.2<=s.size/\y.1.body.size<=100000:=by
 obtain⟨_,_,⟨E,I⟩,_,_⟩:=p8 hc;unfold pU at h;split at h
 .have:=ZB h
  exact⟨this.1,this.2.1,K⟩
 .split at h
  .dsimp only at h
   unfold wX at h;split at h;.cases h
   .rename_i h0
    cases h;have:=PL (by simpa using h0);exact⟨this.1,this.2.1,by dsimp only;omega⟩
  .unfold uq at h
   split at h;.cases h
   .rename_i h0
    have A:=PL (by simpa using h0);split at h;.cases h
    .rename_i l m2 C
     cases h;have J:=Jq xe C;exact⟨A.1,A.2.1,by show((⟨l.toArray⟩:An)).size<=100000;have:((⟨l.toArray⟩:An)).size=l.length:=lK;omega⟩
def tC(D:Nat->Bool)(vs:Nat->jC):List lJ->Nat->Act->Act
 |[],_,a=>a
 |o::l,k,a=>tC D vs l (k+1) (if D k then a.put o.dst (vs k)else a)
def Am(vs:Nat->jC):List lJ->Nat->Act->Act
 |[],_,a=>a
 |o::l,k,a=>Am vs l (k+1) (a.put o.dst (vs k))
def Lt{D:Nat->Bool}{vs:Nat->jC}:∀(l:List lJ)(k:Nat)(a:Act),(∀j,k<=j->j<k+l.length->D j=R)->tC D vs l k a=Am vs l k a
 |[],_,_,_=>rfl
 |o::l,k,a,h=>by
  rw[tC,Am,AC (h k (jB _) nX)];exact Lt l (k+1) _ λj A C=>h j K nY
def Jr{D:Nat->Bool}{vs:Nat->jC}:∀(l:List lJ)(k:Nat)(a:Act),(∀j,k<=j->j<k+l.length->D j=O)->tC D vs l k a=a
 |[],_,_,_=>rfl
 |o::l,k,a,h=>by
  rw[tC,h k (jB _) nX];exact Jr l (k+1) _ λj A C=>h j K nY
def Gy{D D':Nat->Bool}{vs vs':Nat->jC}:∀(l:List lJ)(k:Nat)(a:Act),(∀j,k<=j->D j=D' j/\vs j=vs' j)->tC D vs l k a=tC D' vs' l k a
 |[],_,_,_=>rfl
 |o::l,k,a,h=>by
  rw[tC,tC,(h k (jB _)).1,(h k (jB _)).2];exact Gy l (k+1) _ λj A=>h j K
def uW:List lJ->Bool
 |[]=>R
 |o::l=>(match o.dst with|some d=>l.all λp=>p.dst !=U d|none=>R)&&uW l
def Dx{D:Nat->Bool}{vs:Nat->jC}{x:Option Tmp}{v:jC}:∀(l:List lJ)(k:Nat)(a:Act),(∀d,x=U d->∀p∈l,p.dst≠U d)->tC D vs l k (a.put x v)=(tC D vs l k a).put x v
 |[],_,_,_=>rfl
 |o::l,k,a,h=>by
  rw[tC,tC];split;.rw[<-Dx l (k+1) _ (λd hd p hp=>h d hd p (by simp[hp])),Act.put_comm a v (vs k) (λd hd=>h d hd o nX)]
  .exact Dx l (k+1) _ λd hd p hp=>h d hd p (by simp[hp])
def Bj{o:lJ}{l:List lJ}(h:uW (o::l)=R):(∀d,o.dst=U d->∀p∈l,p.dst≠U d)/\uW l=R:=by
 simp only[uW,jJ]at h;refine⟨λd hd p hp=> ?_,h.2⟩;have A:=h.1;rw[hd]at A;simpa using lN.1 A p hp
def Aw(D:Nat->Bool)(i:Nat):Nat->Bool:=λj=>if j=i then R else D j
def Ay(vs:Nat->jC)(i:Nat)(v:jC):Nat->jC:=λj=>if j=i then v else vs j
def Lu{D:Nat->Bool}{vs:Nat->jC}{i:Nat}{o:lJ}{v:jC}(A:D i=O):∀(l:List lJ)(k:Nat)(a:Act),uW l=R->k<=i->l[i - k]? =U o->(tC D vs l k a).put o.dst v=tC (Aw D i) (Ay vs i v) l k a
 |[],k,a,_,_,ho=>by simp at ho
 |p::l,k,a,hd,hk,ho=>by
  obtain⟨I,J⟩:=Bj hd;by_cases C:i=k
  .subst C
   simp at ho;subst ho;rw[tC,tC,A];simp only[lS,if_false];rw[show Aw D i i=R from AC rfl,show Ay vs i v i=v from AC rfl];simp only[if_true];rw[Dx l (i+1) a I,Gy (D':=Aw D i) (vs':=Ay vs i v) l (i+1) a λj N=>⟨(As K).symm,(As K).symm⟩]
  .have E:l[i -(k+1)]? =U o:=by
    rw[show i - k=(i -(k+1))+1 by omega]at ho;simpa using ho
   rw[tC,tC,show Aw D i k=D k from As K,show Ay vs i v k=vs k from As K];exact Lu A l (k+1) _ J K E
def slotL(vs:Nat->jC):List lJ->Nat->Tmp->jC->jC
 |[],_,_,v=>v
 |o::l,k,t,v=>if o.dst=U t then vs k else slotL vs l (k+1) t v
def Lv{D:Nat->Bool}{vs:Nat->jC}{t:Tmp}:∀(l:List lJ)(k:Nat)(a:Act),(∀p∈l,p.dst≠U t)->(tC D vs l k a).tmps.getD t ku=a.tmps.getD t ku
 |[],_,_,_=>rfl
 |o::l,k,a,h=>by
  rw[tC,Lv l (k+1) _ λp hp=>h p (by simp[hp])];split
  .have:=Act.eval_put (a:=a) (dst:=o.dst) (v:=vs k) (x:=.tmp t) λd hd e=>by cases e;exact h o nX hd
   exact this
  .rfl
def PM{D:Nat->Bool}{vs:Nat->jC}{t:Tmp}:∀(l:List lJ)(k:Nat)(a:Act),uW l=R->t<a.tmps.size->(∀j o,l[j]? =U o->o.dst=U t->D (k+j)=R)->
  (tC D vs l k a).tmps.getD t ku=slotL vs l k t (a.tmps.getD t ku)
 |[],_,_,_,_,_=>rfl
 |o::l,k,a,hd,ht,h=>by
  obtain⟨I,J⟩:=Bj hd;rw[tC,slotL];by_cases A:o.dst=U t
  .rw[AC A,Lv l (k+1) _ λp hp=>I t A p hp,show D k=R from h 0 o rfl A]
   simp only[if_true];rw[A];simp[mR,ht]
  .have hput:(if D k then a.put o.dst (vs k)else a).tmps.size=a.tmps.size:=by
    split;.unfold mR;split<;>simp
    .rfl
   have hget:(if D k then a.put o.dst (vs k)else a).tmps.getD t ku=a.tmps.getD t ku:=by
    cases D k;.rfl
    .exact Act.eval_put (a:=a) (dst:=o.dst) (v:=vs k) (x:=.tmp t) λd C e=>by cases e;exact A C
   rw[As A,PM l (k+1) _ J (by rw[hput];exact ht) λj p hp E=>by have:=h (j+1) p (by simpa using hp) E;rwa [show k+(j+1)=k+1+j by omega]at this,hget]
def Sq(ops:Array lJ)(o:lJ)(j:Nat):Bool:=match (ops[j]?).bind (·.dst)with|some d=>(o.looksAt ops).contains d|none=>O
section
variable {P:lQ}{ops:Array lJ}
def Oper.a6w{o:lJ}{w:M}{am C:Act->M->Prop}{Q Q':Exit->Act->M->Prop}(h:∀a w,am a w->C a w)(E:∀e a w,Q e a w->Q' e a w)(hL:LetsOut Q->LetsOut Q')(A:o.wp P a w am Q):o.wp P a w C Q':=by
 unfold Oper.wp at*;generalize (execOp a.eval o).run P w=r at*;cases r with
 |ok n w'=>
  cases n<;>simp only[Oper.upon]at A|-;case value ao=>exact h _ _ A
  case skip=>exact h _ _ A
  case enter f args=>
   refine A.mono λe I he=> ?_
   cases e<;>simp only at he|-;.exact h _ _ he
   .exact E _ _ _ he
   .exact hL he
  case defer d=>exact h _ _ A
  case row r args=>exact A.mono λv I he=>h _ _ he
 |halt x w'=>
  cases x<;>simp only[Oper.upon]at A|-;case panic v=>exact E _ _ _ A
end
def cB(f:Func):Code:=match f.body with
 |some c=>c
 |none=> .skip
def cL:Code->Code
 | .seq a _=>a
 | .cond _ a _=>a
 | .block _ a=>a
 | .loop a=>a
 | .rangeFunc _ _ a _=>a
 | .scope a=>a
 |a=>a
def cR:Code->Code
 | .seq _ a=>a
 | .cond _ _ a=>a
 | .rangeFunc _ _ _ a=>a
 |a=>a
def cO:Code->List lJ
 | .region _ o _=>o.toList
 |_=>[]
def a5r(ops:Array lJ)(n sz:Nat):Bool:=
 Region.noSelect ops&&uW (ops.toList.take n)&&At (n<=ops.size)&&(ll n).all λi=>match ops[i]? with
  |none=>O
  |some o=>(o.after.all λe=> !mH .any e||At (e.on<i))&&((o.looksAt ops).all λt=>At (t<sz))&&(ll n).all λj=> !Sq ops o j||Region.waitsFor .any ops i j
section
variable {P:lQ}{ops:Array lJ}
def Eh(P:lQ)(ops:Array lJ)(n:Nat)(a0:Act)(C:(Nat->Bool)->(Nat->jC)->M->Prop)(i:Nat)(o:lJ):Prop:=
 ∀(D:Nat->Bool)(vs:Nat->jC)(a:Act)(w:M)(am:Act->M->Prop),C D vs w->D i=O->(∀j,j<n->Region.waitsFor .any ops i j=R->D j=R)->(∀j,j<n->Region.waitsFor .any ops j i=R->D j=O)->
  (∀t∈o.looksAt ops,a.tmps.getD t ku=slotL vs (ops.toList.take n) 0 t (a0.tmps.getD t ku))->
  (∀v A w',A=a.put o.dst v->C (Aw D i) (Ay vs i v) w'->am A w')->
  if ma o (yielded ops a.tmps)=R then o.wp P a w am (λ_ _ _=>False)else am (a.put o.dst ku) w
def oF{id:Nat}{Q:Exit->Act->M->Prop}{w:M}{l:List lJ}(n sz:Nat)(bD:(Nat->Bool)->(Nat->jC)->M->Prop)(aD:P.follows .mixedOrders=R)(hsz:a0.tmps.size=sz)(hB:a5r l.toArray n sz=R)(aj:n=l.length\/(Region.sinkB .any l.toArray n&&Region.chainB .any l.toArray n&&At (n<l.length))=R)(bE:Region.seqB .any l.toArray (l.length - n) n (lh n R++lh (l.length - n) O)=R)(hI:∀vs,bD (λ_=>O) vs {w with drawn:=w.drawn+1})(aT:∀i o,i<n->l[i]? =U o->Eh P l.toArray n a0 bD i o)(bF:∀(D:Nat->Bool) (vs:Nat->jC) (w':M),(∀j,j<n->D j=R)->bD D vs w'->wpList P l.toArray Q (l.drop n) (Am vs (l.take n) 0 a0) w'):
  (kT id l.toArray R).wp P Q a0 w:=by
 simp only[a5r,jJ,decide_eq_true_eq]at hB;obtain⟨⟨⟨bG,aO⟩,aU⟩,ak⟩:=hB;have bH:n<=l.length:=by simpa using aU
 have ah:uW (l.take n)=R:=by simpa using aO
 refine wp_region_any aD ?_
 have key:∀(f:Nat)(A:Array Bool)(a:Act)(w:M)(vs:Nat->jC),HeadInv .any l.toArray n A->((ll n).filter λj=> !A.getD j O).length=f->
   a=tC (λj=>A.getD j O) vs (l.take n) 0 a0->bD (λj=>A.getD j O) vs w->wpAny P .any l.toArray Q (f+(l.length - n)) A a w:=by
  intro f;induction f with
  |zero=>
   intro A a w vs inv aF aG au;have hdone:∀j,j<n->A.getD j O=R:=λj C=>by
    have h0:=List.eq_nil_of_length_eq_zero aF;rw[List.filter_eq_nil_iff]at h0;have:=h0 j (mJ.2 C);simpa using this
   have aH:A=lh n R++lh (l.length - n) O:=by
    have aV:=inv.size;simp at aV;apply Array.ext;.simp;omega
    .intro j N aa
     by_cases C:j<n
     .have:=hdone j C
      rw[Array.getElem_append_left (by simpa using C)];simpa [N]using this
     .have:=inv.tail j K nY
      rw[Array.getElem_append_right nY];simpa [N]using this
   have aI:a=Am vs (l.take n) 0 a0:=by
    rw[aG];exact Lt _ _ _ λj _ C=>hdone j (by simp at C;omega)
   rw[mU];have:=wpAny_of_seq (P:=P) (md:=.any) (ops:=l.toArray) (Q':=Q) (l.drop n) n A a w (λj=>by simp[List.getElem?_drop]) (by rw[kG,aH];exact bE) (by
    rw[aI];exact bF _ vs w hdone au)
   rwa [kG]at this
  |succ f bI=>
   intro A a w vs inv aF aG au;have aL:∃j,j<n/\A.getD j O=O:=by
    have h0:(ll n).filter (λj=> !A.getD j O)≠[]:=by intro h;rw[h]at aF;simp at aF
    obtain⟨j,C⟩:=List.exists_mem_of_ne_nil _ h0;rw[List.mem_filter,mJ]at C;exact⟨j,C.1,by simpa using C.2⟩
   have hin:∀j,j<n->j<A.size:=λj C=>by rw[inv.size];simp;omega
   rw[show f+1+(l.length - n)=(f+(l.length - n))+1 by omega];have av:lI .any l.toArray A≠[]:=by
    have:∃j,(j<n/\A.getD j O=O)/\∀k,k<j->¬(k<n/\A.getD k O=O):=by
     obtain⟨j,C⟩:=aL;induction j using Nat.strongRecOn with
     |_ j aW=>
      rcases Classical.em (∃k,k<j/\(k<n/\A.getD k O=O))with⟨k,hk,hk2⟩|h
      .exact aW k hk hk2
      .exact⟨j,C,λk hk hk2=>h ⟨k,hk,hk2⟩⟩
    obtain⟨j,⟨I,ax⟩,aP⟩:=this;have aX:j<l.length:=K;have ae:l.toArray[j]? =U l[j]:=by simp[aX]
    have N:=lN.1 ak j (mJ.2 I);rw[ae]at N;simp only[jJ]at N;intro h0;have aD:j∈lI .any l.toArray A:=by
     rw[mem_ready];refine⟨getD_in (hin j I) ax,l[j],ae,λe he hb=> ?_⟩;have aa:=Array.all_eq_true_iff_forall_mem.1 N.1.1 e he;rw[hb]at aa;simp at aa;cases hl:A.getD e.on O with
     |true=>rfl
     |false=>exact absurd ⟨K,hl⟩ (aP e.on aa)
    rw[h0]at aD;cases aD
   refine⟨λh0=>absurd h0 av,λi hi=> ?_⟩;have aY:=mem_ready.1 hi;obtain⟨ai,oi,ag,aJ⟩:=aY;have bM:i<l.length:=by have:=(j6.1 ag).1;simpa using this
   have E:i<n:=by
    rcases kQ i n with h|h
    .exact h
    .rcases aj with aj|aj
     .omega
     .simp only[jJ,decide_eq_true_eq]at aj
      obtain⟨⟨hs,hc⟩,hn⟩:=aj;obtain⟨j,I,ax⟩:=aL;exact absurd hi (tail_waits hs hc (by simpa using hn) inv _ j rfl I (getD_in (hin j I) ax) i h)
   have ay:l[i]? =U oi:=by simpa using ag
   have N:=lN.1 ak i (mJ.2 E);rw[ag]at N;simp only[jJ]at N;obtain⟨⟨_,az⟩,aA⟩:=N;have aM:∀j,Region.waitsFor .any l.toArray i j=R->A.getD j O=R:=λj af=>by
    obtain⟨bJ,aZ,e,he,hb,aB⟩:=Region.waitsFor_spec af;have:bJ=oi:=mg (aZ.symm.trans ag);subst this;rw[<-aB];exact aJ e he hb
   have hdone:∀j,j<n->Sq l.toArray oi j=R->A.getD j O=R:=λj C bg=>by
    have aa:=lN.1 aA j (mJ.2 C);rw[bg]at aa;simp only[Bool.not_true,Bool.false_or]at aa;exact aM j aa
   have aK:∀t∈oi.looksAt l.toArray,a.tmps.getD t ku=slotL vs (l.toArray.toList.take n) 0 t (a0.tmps.getD t ku):=λt ht=>by
    have aa:=lN.1 az t ht;rw[aG];exact PM (l.take n) 0 a0 ah (by rw[hsz];simpa using aa) λj o C aQ=>by
     rw[mU];have I:j<n:=by have:=(lu.1 C).1;simp at this;omega
     have ae:l.toArray[j]? =U o:=by rw[mK,AC I]at C;simpa using C
     refine hdone j I ?_;unfold Sq;rw[ae];show(match o.dst with|some d=>(oi.looksAt l.toArray).contains d|none=>O)=R;rw[aQ];simpa using ht
   have aC:∀j,(A.setIfInBounds i R).getD j O=if j=i then R else A.getD j O:=λj=>by
    by_cases h:j=i;.subst h;simp[hin j E]
    .rw[As h,getD_set_ne O (nz h)]
   have aN:(λj=>(A.setIfInBounds i R).getD j O)=Aw (λj=>A.getD j O) i:=funext λj=>by rw[aC];rfl
   have J:=aT i oi E ay (λj=>A.getD j O) vs a w (wpAny P .any l.toArray Q (f+(l.length - n)) (A.setIfInBounds i R)) au (getD_both ai) (λj _ af=>aM j af) (λj C af=>by
    cases hl:A.getD j O with
    |false=>rfl
    |true=>
     obtain⟨bq,ae,e,he,hb,aB⟩:=Region.waitsFor_spec af;have:=inv.closed j bq ae hl e he hb;rw[aB,getD_both ai]at this;cases this) aK (λv bK w' bu bz=>by
    refine bI (A.setIfInBounds i R) bK w' (Ay vs i v) (inv.set hi E) ?_ ?_ ?_
    .have bA:((ll n).filter λj=> !A.getD j O).length=((ll n).filter λj=> !(A.setIfInBounds i R).getD j O).length+1:=by
      have aR:(λj=> !(A.setIfInBounds i R).getD j O)=λj=> !(if j=i then R else A.getD j O):=funext λj=>by rw[aC]
      rw[aR];have bB:∀m,i<m->((ll m).filter λj=> !A.getD j O).length=((ll m).filter λj=> !(if j=i then R else A.getD j O)).length+1:=by
       intro m;induction m with
       |zero=>intro h;omega
       |succ m bC=>
        intro bN;rw[List.range_succ,List.filter_append,List.filter_append,jK,jK];by_cases h:i=m
        .subst h
         have e1:(ll i).filter (λj=> !A.getD j O)=(ll i).filter (λj=> !(if j=i then R else A.getD j O)):=by
          refine List.filter_congr λj C=> ?_
          have:=mJ.1 C;rw[As K]
         rw[e1];have:A.getD i O=O:=getD_both ai;simp only[List.filter_cons,List.filter_nil,this,if_true];simp
        .rw[bC K]
         simp only[List.filter_cons,List.filter_nil,As (nz h)];omega
      exact bB n E
     omega
    .rw[bu,aG]
     have bL:=Lu (D:=λj=>A.getD j O) (vs:=vs) (i:=i) (o:=oi) (v:=v) (getD_both ai) (l.take n) 0 a0 ah (ko _) (by rw[Nat.sub_zero,mK,AC E];exact ay);rw[bL,aN]
    .rw[aN];exact bz)
   unfold wpOp;rw[ag];show if ma oi (yielded l.toArray a.tmps)=R then _ else _
   split
   .rename_i af
    rw[AC af]at J;exact .inl (Oper.a6w (λ_ _ h=>h) (λ_ _ _ h=>h.elim) (λh=>by obtain⟨_,_,h⟩:=h;exact h.elim) J)
   .rename_i af
    rw[As af]at J;exact J
 have aS:HeadInv .any l.toArray n (lh l.toArray.size O):=
  ⟨nX,λj bq _ hl=>(by rw[getD_replicate_false]at hl;cases hl),λt _ ht=>getD_in (by simpa using ht) (getD_replicate_false _ _)⟩
 have:=key n (lh l.toArray.size O) a0 {w with drawn:=w.drawn+1} (λ_=>ku) aS (by
  rw[List.filter_eq_self.2 (λj _=>by rw[getD_replicate_false];rfl),List.length_range]) (by
  rw[Jr _ _ _ λj _ _=>getD_replicate_false _ _]) (by
  rw[show(λj=>(lh l.toArray.size O).getD j O)=λ_=>O from funext λj=>getD_replicate_false _ _];exact hI _)
 rw[show n+(l.length - n)=l.length by omega]at this;simpa using this
def uX{x:Array jC}{k:Nat}{b:Bool}(h:x.getD k ku=nH b):x[k]? =U (nH b):=by
 rw[lD]at h;cases A:x[k]? with
 |none=>rw[A]at h;cases h
 |some v=>rw[A]at h;exact congrArg U h
def oH(D:Nat->Bool)(i:Nat):Aw D i i=R:=AC rfl
def nZ(D:Nat->Bool){i j:Nat}(h:j≠i):Aw D i j=D j:=As h
def qz(vs:Nat->jC)(i:Nat)(v:jC):Ay vs i v i=v:=AC rfl
def oG(vs:Nat->jC){i j:Nat}(v:jC)(h:j≠i):Ay vs i v j=vs j:=As h
end
def rZ(P:lQ)(A:Array lJ)(n:Nat)(a0:Act)(C:(Nat->Bool)->(Nat->jC)->M->Prop):Nat->List lJ->Prop
 |_,[]=>True
 |k,o::l=>Eh P A n a0 C k o/\rZ P A n a0 C (k+1) l
def UT{P:lQ}{A:Array lJ}{n:Nat}{C:(Nat->Bool)->(Nat->jC)->M->Prop}:∀{l:List lJ}{k i:Nat}{o:lJ},rZ P A n a0 C k l->l[i]? =U o->Eh P A n a0 C (k+i) o
 |[],_,_,_,_,h=>by simp at h
 |_::_,k,0,_,h,e=>by simp at e;subst e;exact h.1
 |_::l,k,i+1,o,h,e=>by
  have:=UT (l:=l) (k:=k+1) (i:=i) (o:=o) h.2 (by simpa using e);rwa [show k+1+i=k+(i+1)by omega]at this
def sM{P:lQ}{n:Nat}{C:(Nat->Bool)->(Nat->jC)->M->Prop}{l:List lJ}(h:∀A,A=l.toArray->rZ P A n a0 C 0 (l.take n)):∀i o,i<n->l[i]? =U o->Eh P l.toArray n a0 C i o:=λi o hi ho=>by
 have:=UT (h _ rfl) (i:=i) (o:=o) (by rw[List.getElem?_take_of_lt hi];exact ho);rwa [mU]at this
def fe{l:List lJ}{n i:Nat}{o:lJ}{vs ae:Nat->jC}{S D:Nat->Bool}(A:∀t∈o.looksAt l.toArray,a.tmps.getD t ku=slotL vs (l.toArray.toList.take n) 0 t (a0.tmps.getD t ku))(hI:∀j,S j=R->D j=R->vs j=ae j)(C:∀j,j<n->Region.waitsFor .any l.toArray i j=R->D j=R)(t j:Nat)(E:t∈o.looksAt l.toArray:=by decide)(I:S j=R:=by rfl)(J:j<n:=by decide)(N:Region.waitsFor .any l.toArray i j=R:=by kernel_rfl)(aa:slotL vs (l.toArray.toList.take n) 0 t (a0.tmps.getD t ku)=vs j:=by rfl):a.tmps.getD t ku=ae j:=(A t E).trans (aa.trans (hI j I (C j J N)))
def PN{vs A:Nat->jC}:∀(l:List lJ)(k:Nat)(a:Act),(∀j,j<k+l.length->vs j=A j)->Am vs l k a=Am A l k a
 |[],_,_,_=>rfl
 |o::l,k,a,h=>by
  rw[Am,Am,h k nX,PN l (k+1) _ λj C=>h j nY]
def pE{l:List lJ}{n:Nat}{vs E:Nat->jC}{S D:Nat->Bool}(hI:∀j,S j=R->D j=R->vs j=E j)(A:∀j,j<n->D j=R):Am vs (l.take n) 0 a=Am (λj=>if S j=R then E j else vs j) (l.take n) 0 a:=
 PN _ _ _ λj C=>by
  rw[mU,kD]at C;by_cases h:S j=R;.rw[AC h];exact hI j h (A j K)
  .rw[As h]
def vM{S:Nat->Bool}{C:Nat->jC}{D:Nat->Bool}{vs:Nat->jC}{i:Nat}(h:∀j,S j=R->D j=R->vs j=C j):∀j,S j=R->Aw D i j=R->Ay vs i (C i) j=C j:=by
 intro j hs A;by_cases e:j=i;.subst e;exact qz _ _ _
 .rw[oG _ _ e];rw[nZ _ e]at A;exact h j hs A
def QY{S:Nat->Bool}{C:Nat->jC}{D:Nat->Bool}{vs:Nat->jC}{i:Nat}{v:jC}(hi:S i=O)(h:∀j,S j=R->D j=R->vs j=C j):∀j,S j=R->Aw D i j=R->Ay vs i v j=C j:=by
 intro j hs A;have e:j≠i:=by rintro rfl;rw[hs]at hi;cases hi
 rw[oG _ _ e];rw[nZ _ e]at A;exact h j hs A
structure UU where
 id:Nat
 name:An
 body:An
 n:Nat
 e:Nat
def UU.v(y:UU):jC:=nJ #[nI #[Y nN y.id,G y.name,G y.body],Y X y.n,Y X y.e]
def Sr(ar:Except Nat (vS×Nat)):UU:=match ar with
 | .error er=>⟨0,⟨#[]⟩,⟨#[]⟩,0,er⟩
 | .ok y=>⟨y.1.id,y.1.name,y.1.body,y.2,0⟩
def Lx{ar:Except Nat (vS×Nat)×Option (Nat×MS)}{mt:Option (Nat×MS)}{w w':M}{e:Ending}:A7 ar mt w e w'<->w.grownBy w' (oQ mt)/\qb w' ar.2/\e=nK (Sr ar.1).v:=by
 unfold A7;obtain⟨A,m2⟩:=ar;cases A with
 |error er=>exact Iff.rfl
 |ok y=>exact Iff.rfl
structure PO(g:Nat)(c:oO)(w0:M)(mt m2:Option (Nat×MS))(y:UU)(d8 d13 d14:Bool)(v:jC)(w:M):Prop where
 wn:Li g c w0 mt w
 mm:qb w (if d8=R then m2 else mt)
 blk:d13=R->∃b,v=nG (U (Z b 0 V))/\g+1<b/\nU w b (if d14=R then#[Y nN y.id,G y.name,G y.body]else#[Y nN 0,G ⟨#[]⟩,G ⟨#[]⟩]) rq
section
variable {g:Nat}{c:oO}{w0 w w':M}{mt m2:Option (Nat×MS)}{y:UU}{d8 d13 d14:Bool}{v:jC}
def PO.below(h:PO g c w0 mt m2 y d8 d13 d14 v w)(hb:jD w.heap.size w w'):PO g c w0 mt m2 y d8 d13 d14 v w':=
 ⟨h.wn.below hb,h.mm.grown hb,λhd=>by obtain⟨b,C,E,A⟩:=h.blk hd;exact⟨b,C,E,Below.blk hb A A.lt⟩⟩
def PO.call(h:PO g c w0 mt m2 y O d13 d14 v w)(hg:w.grownBy w' (oQ mt))(A:qb w' m2)(hlt:∀x,oQ mt=U x->x<g):PO g c w0 mt m2 y R d13 d14 v w':=
 ⟨h.wn.grow hg hlt,A,λhd=>by obtain⟨b,C,E,I⟩:=h.blk hd;exact⟨b,C,E,pO I hg λx J=>by have:=hlt x J;omega⟩⟩
def PO.made(h:PO g c w0 mt m2 y d8 O O v w):PO g c w0 mt m2 y d8 R O (nG (U (Z w.heap.size 0 V))) (w.alloc (nL #[Y nN 0,G ⟨#[]⟩,G ⟨#[]⟩] rq)):=by
 have hb:=(jE w.heap.size w).alloc (jB _) (nL #[Y nN 0,G ⟨#[]⟩,G ⟨#[]⟩] rq);exact⟨h.wn.below hb,h.mm.grown hb,λ_=>⟨w.heap.size,rfl,h.wn.res.lt,nU.new w _ _⟩⟩
def PO.put{b:Nat}(h:PO g c w0 mt m2 y R R O (nG (U (Z b 0 V))) w)(E:w0.heap.size<=g)(hlt:∀x,oQ m2=U x->x<g)(A:g+1<b)(hB:nU w b #[Y nN 0,G ⟨#[]⟩,G ⟨#[]⟩] rq):PO g c w0 mt m2 y R R R (nG (U (Z b 0 V))) (y9 w b (Y nN y.id) (G y.name) (G y.body)):=
 have C:=a3b (a:=Y nN y.id) (b:=G y.name) (d:=G y.body) h.wn hB A E hlt h.mm
 ⟨C.wn,C.mm,λ_=>⟨b,rfl,A,C.fr⟩⟩
end
noncomputable def Js:List lJ:=cO (cL (cR (cR (cB Tryz.f63))))
section
variable (g:Nat)(c:oO)(fn:FuncId)(row:jC)(w0:M)(mt m2:Option (Nat×MS))(s:An)(y:UU)
def uI:Nat->jC
 |0=> nI Au
 |1=> nG (U (Z g 0 V))
 |2=> Y X c.fmt
 |3=>row
 |4=> .func (.func fn) #[] #[]
 |5=> nI #[Y X c.fmt,Y nO c.mag,Y X c.pV,Y X c.qH,Y X c.dep,Y X c.pq]
 |6=>K7 mt
 |7=> G s
 |8=>y.v
 |9=>y.v
 |10=> nI #[Y nN y.id,G y.name,G y.body]
 |11=> Y X y.n
 |12=> Y X y.e
 |15=> Y X y.n
 |16=> Y X y.e
 |_=>ku
structure a6x(D:Nat->Bool)(vs:Nat->jC)(w:M):Prop where
 oU:PO g c w0 mt m2 y (D 8) (D 13) (D 14) (vs 13) w
 val:∀j,(j !=13)=R->D j=R->vs j=uI g c fn row mt s y j
variable {g c fn row w0 mt m2 s y}
def a3q{D:Nat->Bool}{vs:Nat->jC}{w w':M}(h:a6x g c fn row w0 mt m2 s y D vs w){i:Nat}(hi:i≠8/\i≠13/\i≠14)(A:PO g c w0 mt m2 y (D 8) (D 13) (D 14) (vs 13) w->PO g c w0 mt m2 y (D 8) (D 13) (D 14) (vs 13) w'):a6x g c fn row w0 mt m2 s y (Aw D i) (Ay vs i (uI g c fn row mt s y i)) w':=by
 refine⟨?_,vM h.val⟩;rw[nZ D (show 8≠i by omega)];rw[nZ D (show 13≠i by omega)];rw[nZ D (show 14≠i by omega)];rw[oG vs (uI g c fn row mt s y i) (show 13≠i by omega)];exact A h.oU
def q8(h:p:=by
 simp only[jY,kJ,Am,mR];exact q):p:=h
def q9(h:p:=by
 exact λvs=>⟨hI0 vs,λj _ h=>by cases h⟩):p:=h
def a6y{id:Nat}{Q:Exit->Act->M->Prop}{ah:M}(ht3:a0.tmps.getD 3 ku=nG (U (Z g 0 V)))(hrow:∀W,(kP 142 (nI Au) (Y X c.fmt)).run jy W=.ok row W)(KF:∀W,(Instr.field 141 row 2).run jy W=.ok (.func (.func fn) #[] #[]) W)(ht1:a0.tmps.getD 1 ku=K7 mt)(ht2:a0.tmps.getD 2 ku=G s)(hlt:∀x,oQ mt=U x->x<g)(hcf:∀a b d W,lL jy (callFunc fn #[a,b,d]) W=.ok (.enter fn #[a,b,d]) W)(hcall:∀W,qb W mt->jG jy fn #[nI #[Y X c.fmt,Y nO c.mag,Y X c.pV,Y X c.qH,Y X c.dep,Y X c.pq],K7 mt,G s] W λe ai=>W.grownBy ai (oQ mt)/\qb ai m2/\e=nK y.v)(hm2:oQ m2=oQ mt)(hw0:w0.heap.size<=g)(hsz:a0.tmps.size=35)(hI0:∀vs:Nat->jC,(λw=>PO g c w0 mt m2 y O O O (vs 13) w) ah.drew)(aj:∀(vs:Nat->jC) (w:M),PO g c w0 mt m2 y R R R (vs 13) w->Q .normal {a0 with tmps:=((((((((((((((((a0.tmps.setIfInBounds 17 (nI Au)).setIfInBounds 18 (nG (U (Z g 0 V)))).setIfInBounds 19 (Y X c.fmt)).setIfInBounds 20 (row)).setIfInBounds 21 (.func (.func fn) #[] #[])).setIfInBounds 22 (nI #[Y X c.fmt,Y nO c.mag,Y X c.pV,Y X c.qH,Y X c.dep,Y X c.pq])).setIfInBounds 23 (K7 mt)).setIfInBounds 24 (G s)).setIfInBounds 25 (y.v)).setIfInBounds 16 (y.v)).setIfInBounds 26 (nI #[Y nN y.id,G y.name,G y.body])).setIfInBounds 27 (Y X y.n)).setIfInBounds 28 (Y X y.e)).setIfInBounds 9 (vs 13)).setIfInBounds 10 (Y X y.n)).setIfInBounds 11 (Y X y.e))} w):
  (kT id Js.toArray R).wp jy Q a0 ah:=by
 refine oF 17 35 (a6x g c fn row w0 mt m2 s y) nV hsz nV (.inl rfl) nV ?_ ?_ ?_;.exact q9
 .refine sM λA aH=> ?_
  clear hI0 aj hsz;replace ht3:=H ht3;replace hrow:=H hrow;replace KF:=H KF;replace ht1:=H ht1;replace ht2:=H ht2;replace hlt:=H hlt;replace hcf:=H hcf;replace hcall:=H hcall;replace hm2:=H hm2;replace hw0:=H hw0;dsimp+instances only[Js,cO,cL,cR,cB,Tryz.f63];simp only[jY,kJ,rZ];refine⟨?_,?_,?_,?_,?_,?_,?_,?_,?_,?_,?_,?_,?_,?_,?_,?_,?_,trivial⟩<;>(intro D vs a w am hI hd E af C N;subst aH;dsimp+instances only[Js,cO,cL,cR,cB,Tryz.f63])
  .rw[AC (by rfl)]
   have aI:=D6 w;go_simp;refine aI.mono ?_;rintro e aJ ⟨rfl,hb⟩;exact N (uI g c fn row mt s y 0) _ _ rfl (a3q hI (i:=0) nT λh=>h.below hb)
  have e3:=(C 3 nT).trans ht3.out;rotate_left;have ak:=fe C hI.val E 18 1;simp only[uI]at ak;have c0:w.cell? (Z g 0 V)=U (Y X c.fmt):=hI.oU.wn.cf.cell 0;rotate_left;have hrow:=hrow.out;have ag:=fe C hI.val E 17 0;have au:=fe C hI.val E 19 2;simp only[uI]at ag au;have av:=hrow w;unfold Au at av ag;rotate_left;have KF:=KF.out;have ax:=fe C hI.val E 20 3;simp only[uI]at ax;have av:=KF w;rotate_left;have e3:=(C 3 nT).trans ht3.out;obtain⟨c0,c1,c2,c3,c4,c5⟩:=hI.oU.wn.cf.a6;rotate_left;have e1:=(C 1 nT).trans ht1.out;rotate_left;have e2:=(C 2 nT).trans ht2.out;rotate_left
  .have hlt:=hlt.out
   have hcf:=hcf.out;have hcall:=hcall.out;have ay:=fe C hI.val E 21 4;have az:=fe C hI.val E 22 5;have aA:=fe C hI.val E 23 6;have aB:=fe C hI.val E 24 7;simp only[uI]at ay az aA aB;have J:=hI.oU;rw[hd]at J;have aK:=hcall w J.mm;rw[AC (by rfl)];go_simp;refine aK.mono ?_;rintro e aJ ⟨hg,hm2,rfl⟩;refine N (uI g c fn row mt s y 8) _ _ rfl ⟨?_,vM hI.val⟩;rw[oH,nZ D (show 13≠8 by decide),nZ D (show 14≠8 by decide),oG vs _ (show 13≠8 by decide)];exact J.call hg hm2 hlt
  have aM:=fe C hI.val E 25 8;rotate_left;have I:=fe C hI.val E 16 9;simp only[uI]at I;unfold UU.v at I;rotate_left;have I:=fe C hI.val E 16 9;simp only[uI]at I;unfold UU.v at I;rotate_left;have I:=fe C hI.val E 16 9;simp only[uI]at I;unfold UU.v at I;rotate_left
  .have J:=hI.oU
   rw[hd,af 14 nT nV]at J;go_simp;refine N (nG (U (Z w.heap.size 0 V))) _ _ rfl ⟨?_,QY rfl hI.val⟩;rw[oH,nZ D (show 8≠13 by decide),nZ D (show 14≠13 by decide),qz];rw[af 14 nT nV];exact J.made
  .have hlt:=hlt.out
   have hm2:=hm2.out;have hw0:=hw0.out;have d13:=E 13 nT nV;have aC:a.tmps.getD 9 ku=vs 13:=C 9 nT;have aD:=fe C hI.val E 26 10;simp only[uI]at aD;have aF:D 8=R:=E 8 nT nV;have J:=hI.oU;rw[hd,aF,d13]at J;obtain⟨b,aa,aG,hB⟩:=J.blk rfl;have aC:=aC.trans aa;obtain⟨z0,aP,aQ,aR,f1,f2⟩:=Lj hB;go_simp;refine N ku _ _ rfl ⟨?_,vM hI.val⟩;rw[oH,nZ D (show 8≠14 by decide),nZ D (show 13≠14 by decide),oG vs _ (show 13≠14 by decide)];rw[aF,d13,aa];rw[aa]at J;exact J.put hw0 (λx aL=>hlt x (hm2▸aL)) aG hB
  have aN:=fe C hI.val E 27 11;rotate_left;have aO:=fe C hI.val E 28 12;rotate_left
  all_goals
   try simp only[uI]at*
   go_simp;exact N _ _ _ rfl ⟨hI.oU,vM hI.val⟩
 .intro D vs w ae hI
  have E:=hI.oU;rw[ae 8 nT]at E;rw[ae 13 nT]at E;rw[ae 14 nT]at E;have q:=aj vs w E;rw[pE hI.val ae];dsimp+instances only[Js,cO,cL,cR,cB,Tryz.f63];exact q8
end
def a3r{id:Nat}{Q:Exit->Act->M->Prop}{w w0:M}{g:Nat}{c:oO}{fn:FuncId}{row:jC}{mt m2:Option (Nat×MS)}{s:An}{y:UU}(J:a0.tmps.getD 1 ku=K7 mt)(N:a0.tmps.getD 2 ku=G s)(aa:a0.tmps.getD 3 ku=nG (U (Z g 0 V)))(hsz:a0.tmps.size=35)(hrow:∀W,(kP 142 (nI Au) (Y X c.fmt)).run jy W=.ok row W)(KF:∀W,(Instr.field 141 row 2).run jy W=.ok (.func (.func fn) #[] #[]) W)(hI0:Li g c w0 mt w)(A:qb w mt)(hm2:oQ m2=oQ mt)(hw0:w0.heap.size<=g)(hlt:∀x,oQ mt=U x->x<g)(hcf:∀a b d W,lL jy (callFunc fn #[a,b,d]) W=.ok (.enter fn #[a,b,d]) W)(hcall:∀W,qb W mt->jG jy fn #[nI #[Y X c.fmt,Y nO c.mag,Y X c.pV,Y X c.qH,Y X c.dep,Y X c.pq],K7 mt,G s] W λe C=>W.grownBy C (oQ mt)/\qb C m2/\e=nK y.v)(ae:∀(vs:Nat->jC) (b:Nat) W,WnF g c w0 mt m2 (Y nN y.id) (G y.name) (G y.body) b W->g+1<b->Q .normal {a0 with tmps:=(((((((((((((((a0.tmps.setIfInBounds 17 (vs 0)).setIfInBounds 18 (vs 1)).setIfInBounds 19 (vs 2)).setIfInBounds 20 (vs 3)).setIfInBounds 21 (vs 4)).setIfInBounds 22 (vs 5)).setIfInBounds 23 (vs 6)).setIfInBounds 24 (vs 7)).setIfInBounds 25 (vs 8)).setIfInBounds 16 (vs 9)).setIfInBounds 26 (vs 10)).setIfInBounds 27 (vs 11)).setIfInBounds 28 (vs 12)).setIfInBounds 9 (nG (U (Z b 0 V)))).setIfInBounds 10 (Y X y.n)).setIfInBounds 11 (Y X y.e)} W):
  (kT id Js.toArray R).wp jy Q a0 w:=by
 refine a6y (ht3:=aa) (hrow:=hrow) (KF:=KF) (ht1:=J) (ht2:=N) (hlt:=hlt) (hcf:=hcf) (hcall:=hcall) (hm2:=hm2) (hw0:=hw0) (hsz:=hsz) (hI0:=λ_=>⟨hI0.drew,(a3a A:qb w.drew mt),nofun⟩) ?_;intro vs W hI;obtain⟨b,E,I,hB⟩:=hI.blk rfl;have q:=ae (uI g c fn row mt s y) b W ⟨hI.wn,hB,hI.mm⟩ I;rw[<-E]at q;exact q
def a3s(c:oO)(s:An)(mt:Option (Nat×MS))(hs:s.size<=jN)(hc:oL c=R)(E:c.wf):∃(fn:FuncId) (row:jC),(∀W,(kP 142 (nI Au) (Y X c.fmt)).run jy W=.ok row W)/\
  (∀W,(Instr.field 141 row 2).run jy W=.ok (.func (.func fn) #[] #[]) W)/\(∀a b d W,lL jy (callFunc fn #[a,b,d]) W=.ok (.enter fn #[a,b,d]) W)/\
  ∀W,qb W mt->jG jy fn #[nI #[Y X c.fmt,Y nO c.mag,Y X c.pV,Y X c.qH,Y X c.dep,Y X c.pq],K7 mt,G s] W λe A=>W.grownBy A (oQ mt)/\qb A (pU c s mt).2/\e=nK (Sr (pU c s mt).1).v:=by
 have N:=(p8 hc).1;have key:∀k:Nat,c.fmt=k->∀f,Y5 k=.func (.func f) #[] #[]->∀W,qb W mt->jG jy f #[nI #[Y X c.fmt,Y nO c.mag,Y X c.pV,Y X c.qH,Y X c.dep,Y X c.pq],K7 mt,G s] W λe A=>W.grownBy A (oQ mt)/\qb A (pU c s mt).2/\e=nK (Sr (pU c s mt).1).v:=by
  intro k hk f I W J;obtain⟨aa,C,hcall⟩:=Ph c k hk s mt W hs hc E J;rw[I]at C;cases C;exact hcall.mono λe A h=>Lx.1 h
 have hk:c.fmt=1\/c.fmt=2\/c.fmt=3:=K;rcases hk with hk|hk|hk
 .have hix:=Uw
  rw[<-hk]at hix;exact⟨100,_,hix,λW=>RI _ _ _ _ W,λ_ _ _ _=>rfl,key 1 hk _ rfl⟩
 .have hix:=Ux
  rw[<-hk]at hix;exact⟨105,_,hix,λW=>RI _ _ _ _ W,λ_ _ _ _=>rfl,key 2 hk _ rfl⟩
 .have hix:=Uy
  rw[<-hk]at hix;exact⟨110,_,hix,λW=>RI _ _ _ _ W,λ_ _ _ _=>rfl,key 3 hk _ rfl⟩
def WS(c:oO)(s:An)(mt:Option (Nat×MS))(w:M)(hs:s.size<=jN)(hc:oL c=R)(ag:c.wf)(J:qb w mt):
  jG jy 63 #[c.v,K7 mt,G s] w λe w'=>w.grownBy w' (oQ mt)/\qb w' (pU c s mt).2/\e=nK (Sr (pU c s mt).1).v:=by
 obtain⟨fn,row,hrow,KF,hcf,hcall⟩:=a3s c s mt hs hc ag;have C:=A9 c s mt;have N:=H (A8 J);have ah:=Fu c s mt;have ai:=H (Dl c);rw[hc]at ai;obtain⟨g,hg⟩:=og w.heap.size;have aj:jI (∀W,(w.alloc (nL #[Y X c.fmt,Y nO c.mag,Y X c.pV,Y X c.qH,Y X c.dep,Y X c.pq] uk)).alloc (nL #[Y nN 0,G ⟨#[]⟩,G ⟨#[]⟩] rq)=W->Li g c w mt W/\qb W mt):=H λW h=>by
  subst h;have aI:=(jE w.heap.size w).alloc (jB _) (nL #[Y X c.fmt,Y nO c.mag,Y X c.pV,Y X c.qH,Y X c.dep,Y X c.pq] uk);have aa:=aI.alloc nX (nL #[Y nN 0,G ⟨#[]⟩,G ⟨#[]⟩] rq);have aV:(w.alloc (nL #[Y X c.fmt,Y nO c.mag,Y X c.pV,Y X c.qH,Y X c.dep,Y X c.pq] uk)).heap.size=g+1:=by simp[hg]
  have aJ:=nU.new w #[Y X c.fmt,Y nO c.mag,Y X c.pV,Y X c.qH,Y X c.dep,Y X c.pq] uk;have A:=nU.new (w.alloc (nL #[Y X c.fmt,Y nO c.mag,Y X c.pV,Y X c.qH,Y X c.dep,Y X c.pq] uk)) #[Y nN 0,G ⟨#[]⟩,G ⟨#[]⟩] rq;rw[aV]at A;exact⟨⟨hg▸aJ.alloc _,A,pG aa⟩,J.grown aa⟩
 rw[hg]at N;generalize (pU c s mt).2=m2 at*;obtain⟨y,hy⟩:=og (Sr (pU c s mt).1);have aW:jI ((y.e=0/\True)\/(y.e≠0/\y.id=0/\y.name=⟨#[]⟩/\y.body=⟨#[]⟩/\y.n=0)):=H (by
  rw[<-hy];cases aX:(pU c s mt).1 with
  |error er=>
   have:=ah er aX;exact .inr ⟨by show er≠0;omega,rfl,rfl,rfl,rfl⟩
  |ok z=>exact .inl ⟨rfl,trivial⟩)
 rw[hy]at hcall|-;clear hy ah;have ae:=H (λ(id:Nat) (Q:Exit->Act->M->Prop) (a0:Act) (W:M) (au:a0.tmps.getD 1 ku=K7 mt) (av:a0.tmps.getD 2 ku=G s) (ax:a0.tmps.getD 3 ku=nG (U (Z g 0 V))) (hsz:a0.tmps.size=35) hI0 hM0 hQ=>
  a3r (id:=id) (Q:=Q) (a0:=a0) (w:=W) (w0:=w) (c:=c) (y:=y) au av ax hsz hrow KF hI0 hM0 C (lZ hg) N hcf hcall hQ)
 have aK:=H C;clear hrow KF hcf hcall ag hc hs J C;obtain⟨f,m,fr,bA,bB,bC⟩:=c;unfold oO.v oO.cs at*;dsimp only at*;go_in;go_upto_region 1 with fail;obtain⟨hI,ak⟩:=aj.out _ rfl;generalize (w.alloc _).alloc _=w1 at*;have aL:=H hI;have aM:=H ak;obtain⟨_,aN,aO,aP,aQ,aR,aS⟩:=hI.s;clear hI aj ak;dsimp only at aN aO aP aQ aR aS;go_wp2_with fail;refine(ai _).mono ?_;rintro e w2 ⟨rfl,A⟩;have aT:=H (aL.below A);have ay:=H (aM.grown A);clear A aL aM aN aO aP aQ aR aS;go_upto_region 3 with fail;refine ae _ _ _ _ rfl rfl rfl rfl aT ay ?_;intro vs b W hF bu;clear ae;have I:=H hF;generalize vs 0=v0;generalize vs 1=v1;generalize vs 2=v2;generalize vs 3=v3;generalize vs 4=v4;generalize vs 5=v5;generalize vs 6=v6;generalize vs 7=bD;generalize vs 8=bE;generalize vs 9=v9;generalize vs 10=v10;generalize vs 11=v11;generalize vs 12=bz;obtain⟨az,aA,aB,aY,aC⟩:=y;dsimp only at*;obtain⟨r0,r1,r2,z0,bF,bG⟩:=I.wn.res.b3;obtain⟨bH,bI,y2⟩:=I.fr.a3;clear hF;have aU:=H (λ(a b c:jC)=>qW (a:=a) (b:=b) (c:=c) I.wn.res);have af:=H (λ(a b c:jC)=>Dm (a:=a) (b:=b) (c:=c) ⟨I.wn.res,I.mm,I.wn.gr⟩ (λx aZ=>N.out x (aK.out▸aZ)) hg);simp only[jH,jQ,jR];rcases aW.out with⟨E,_⟩|⟨E,au,av,ax,bg⟩
 .subst E
  go_wp2_with fail;rw[rP];obtain⟨e1,e2⟩:=af.out (Y nN az) (G aA) (G aB);have aD:=aU.out (Y nN az) (G aA) (G aB);obtain⟨aF,aG,aH⟩:=aD.a3;refine jO (v:=nJ #[nI #[Y nN az,G aA,G aB],Y X (aY:Nat),Y X 0]) (by simp[kF,Tryz.results63,go_sem,aF,aG,aH]) rfl ⟨e1,e2,rfl⟩
 .subst au av ax bg
  have bq:((aC:Int) !=0)=R:=nY;have E:jI (aC≠0):=E;go_wp2_with fail;rw[rP];obtain⟨e1,e2⟩:=af.out (Y nN 0) (G ⟨#[]⟩) (G ⟨#[]⟩);have aD:=aU.out (Y nN 0) (G ⟨#[]⟩) (G ⟨#[]⟩);obtain⟨aF,aG,aH⟩:=aD.a3;refine jO (v:=nJ #[nI #[Y nN 0,G ⟨#[]⟩,G ⟨#[]⟩],Y X 0,Y X (aC:Nat)]) (by simp[kF,Tryz.results63,go_sem,aF,aG,aH]) rfl ⟨e1,e2,rfl⟩
def p0(a:TL)(_:List (nS TL)):Bool:=At (a.tail=0)
def a6z(x:nS TL):x.all p0=(At (x.lab.tail=0)&&nS.pF p0 x.sub):=by
 cases x with
 |node a s=>rfl
def a3t(a:TL)(s:List (nS TL)):(nS.node a s).all p0=(At (a.tail=0)&&nS.pF p0 s):=rfl
def WT(x:nS TL):∀(w:M)(v:jC),o6 w v x.sub->
  jG jy 172 #[nI #[Y X x.lab.kind,Y X x.lab.size,v,Y X x.lab.tail]] w λe w'=>e=nK (nH (nS.pF p0 x.sub))/\jD w.heap.size w w':=by
 induction x using nS.ind with
 |h a s aH=>
  intro w v ag;simp only[nS.rE,nS.o9]at ag|-;obtain⟨oa,cap,rfl,aC,au⟩:=o6.slice ag;obtain⟨g,hg⟩:=og w.heap.size;have ah:=H (vG (k:=a.kind) (z:=a.size) (l:=a.tail) (t:=63) ag);have aI:s.length<=9223372036854775807:=by unfold jN at au;omega
  obtain⟨aq,aD⟩:=og s.length;have aJ:=H aD;have aS:=H aH;obtain⟨ar,aF⟩:=og (nS.pF p0 s);have aK:=H aF;rw[hg]at ah|-;rw[aD]at ah aI|-;rw[aF];clear ag aC au aH aD aF;go_in;go_upto_region 1 with fail;generalize w.alloc (nL #[Y X a.kind,Y X a.size,u oa aq cap,Y X a.tail] 63)=w1 at*;obtain⟨av,ht1,hsz,c0,c1,c2,c3⟩:=ah.out _ rfl;have ai:=H (jF av ht1);clear ah av ht1 c0 c1 c3;go_wp2_with fail;clear c2;go_loopw [4,8] (λ_ iv aT=>∃k:Nat,iv=Y X k/\k<=aq/\jI (nS.pF p0 (s.take k)=R)/\jI (jD (g+1) w1 aT)) (λ_ iv _=>aq -(kC iv).toNat);case atStart=>exact⟨0,rfl,K,by simp[jI,nS.pF],H (jE _ _)⟩
  case round=>
   obtain⟨k,rfl,hk,aL,I⟩:=hrel;have HF:jI (jD g w wr):=H (ai.1.trans (I.mono K));have aM:g+1<=wr.heap.size:=by have:=I.size;omega
   by_cases c:k<aq
   .obtain⟨y,hy⟩:∃y,s[k]? =U y:=⟨_,jL (by rw[aJ.out];exact c)⟩
    obtain⟨b,off,ao,rfl,hlt,aU,aV,y2,aW,aj,aN⟩:=o6.at_ (Shape.om.below ai.2 (hsz▸I.out)) hy;obtain⟨ou,cu,rfl,_,_⟩:=o6.slice aj;obtain⟨J,ax⟩:=og y.sub.length;rw[ax]at aj y2;clear ax;have ak:jI (nS.pF p0 (s.take (k+1))=y.all p0):=H (by rw[nS.xC hy,aL.out];rfl);have A:jI (y.all p0=O->ar=O):=H λh=>by rw[<-aK.out];exact nS.uH hy h
    have N:=H (a6z y);have aX:=H aj;have aO:=H (aS y (kE hy))
    have aP:jI (∀W,wr.alloc (nL #[Y X y.lab.kind,Y X y.lab.size,u ou J cu,Y X y.lab.tail] 63)=W->jD wr.heap.size wr W/\o6 W (u ou J cu) y.sub/\W.heap.size=wr.heap.size+1/\
      nU W wr.heap.size #[Y X y.lab.kind,Y X y.lab.size,u ou J cu,Y X y.lab.tail] 63):=H λW h=>by
     subst h;have ay:=(jE wr.heap.size wr).alloc (jB _) (nL #[Y X y.lab.kind,Y X y.lab.size,u ou J cu,Y X y.lab.tail] 63);exact⟨ay,Shape.om.below aX ay,nX,nU.new wr _ _⟩
    clear aj aN;go_upto_region 4 with fail;generalize wr.alloc (nL #[Y X y.lab.kind,Y X y.lab.size,u ou J cu,Y X y.lab.tail] 63)=w4 at*;obtain⟨az,GZ,aZ,aA⟩:=aP.out _ rfl;obtain⟨b0,b1,bg,b3⟩:=aA.a4;have aB:=H (aO w4 (u ou J cu) GZ);have aa:=H (I.trans (az.mono aM));have ae:g+1<=w4.heap.size:=K;clear aP az GZ aA aO aU aV y2 aW;generalize nS.pF p0 y.sub=q at*;rcases a8K y.lab.tail 0 with⟨t0,aG⟩|⟨t0,aG⟩
    .cases q with
     |true=>
      have aQ:jI (nS.pF p0 (s.take (k+1))=R):=H (by rw[ak.out,N.out,decide_eq_true aG.out];rfl);clear ak A N;go_wp2_with fail;refine(aB).mono ?_;rintro e w5 ⟨rfl,C⟩;have E:=H (aa.trans (C.mono ae));clear C;go_wp2;go_roundw;case rel=>exact⟨k+1,by go_num,K,aQ,E⟩
      case measure=>simp[kC];omega
     |false=>
      have af:jI (ar=O):=H (A (by rw[N.out,Bool.and_false]));clear ak A N;go_wp2_with fail;refine(aB).mono ?_;rintro e w5 ⟨rfl,C⟩;have E:=H (ai.1.trans ((aa.trans (C.mono ae)).mono (kR g)));clear C;go_wp2;go_returns;exact⟨by rw[af.out];rfl,E.out⟩
    .have af:jI (ar=O):=H (A (by rw[N.out,decide_eq_false aG.out];rfl))
     have E:=H (ai.1.trans (aa.mono (kR g)));clear ak A N;go_wp2;go_returns;exact⟨by rw[af.out];rfl,E.out⟩
   .obtain rfl:k=aq:=K
    have HE:jI (ar=R):=by
     unfold jI;have aY:s.take k=s:=by rw[<-aJ.out,lM]
     have aR:=aL.out;rw[aY]at aR;rw[<-aK.out,aR]
    exact M4
def ZE(h:p:=by
 go_wp2_with fail;refine(CY).mono ?_;rintro e w5 ⟨rfl,hb5⟩;have HB5:=H (hbe.trans (hb5.mono hgr));clear hb5;go_wp2;go_roundw;case rel=>exact⟨k+1,by go_num,K,HT,HB5⟩
 case measure=>simp[kC];omega):p:=h
def WU(x:nS TL):∀(w:M)(v:jC),o6 w v x.sub->
  jG jy 88 #[nI #[Y X x.lab.kind,Y X x.lab.size,v,Y X x.lab.tail]] w λe w'=>e=nK (nH (!x.all p0))/\jD w.heap.size w w':=by
 induction x using nS.ind with
 |h a s ai=>
  intro w v A;simp only[nS.rE,nS.o9]at A|-;have C:=H (a3t a s);obtain⟨oa,cap,rfl,ae,J⟩:=o6.slice A;obtain⟨g,hg⟩:=og w.heap.size;have E:=H (vG (k:=a.kind) (z:=a.size) (l:=a.tail) (t:=63) A);have aj:s.length<=9223372036854775807:=by unfold jN at J;omega
  obtain⟨aq,af⟩:=og s.length;have ak:=H af;have aC:=H ai;obtain⟨ar,ag⟩:=og (nS.pF p0 s);have au:=H ag;rw[hg]at E|-;rw[af]at E aj|-;rw[ag]at C;generalize (nS.node a s).all p0=aB at*;clear A ae J ai af ag;have t0:=a8K a.tail 0;go_in;go_upto_region 1 with fail;generalize w.alloc (nL #[Y X a.kind,Y X a.size,u oa aq cap,Y X a.tail] 63)=w1 at*;obtain⟨N,ht1,hsz,c0,c1,c2,c3⟩:=E.out _ rfl;have ah:=H (jF N ht1);clear E N ht1;rcases t0 with⟨t0,I⟩|⟨t0,I⟩
  case inr=>
   have HE:jI ((!aB)=R):=H (by rw[C.out,decide_eq_false I.out];rfl);go_wp2;go_returns;exact⟨by rw[HE.out];rfl,ah.1⟩
  have av:jI (aB=ar):=H (by rw[C.out,decide_eq_true I.out];rfl);clear C I;go_wp2_with fail;clear c0 c1 c3 t0;go_loopw [3] (λiv aD=>∃k:Nat,iv=Y X k/\k<=aq/\jI (nS.pF p0 (s.take k)=R)/\jI (jD (g+1) w1 aD)) (λiv _=>aq -(kC iv).toNat);case atStart=>exact⟨0,rfl,K,by simp[jI,nS.pF],H (jE _ _)⟩
  case round=>
   obtain⟨k,rfl,hk,ax,hbe⟩:=hrel;have aG:wr.cell? (Z g 2 V)=U (u oa aq cap):=(hbe.cell (p:=(Z g 2 V)) (lF g)).trans c2;have HF:jI (jD g w wr):=H (ah.1.trans (hbe.mono K));have hgr:g+1<=wr.heap.size:=by have:=hbe.size;omega
   by_cases c:k<aq
   .obtain⟨y,hy⟩:∃y,s[k]? =U y:=⟨_,jL (by rw[ak.out];exact c)⟩
    obtain⟨b,off,ao,rfl,hlt,aH,aI,y2,aJ,ay,az⟩:=o6.at_ (Shape.om.below ah.2 (hsz▸hbe.out)) hy;have HT:jI (nS.pF p0 (s.take (k+1))=y.all p0):=H (by rw[nS.xC hy,ax.out];rfl);have aa:jI (y.all p0=O->ar=O):=H λh=>by rw[<-au.out];exact nS.uH hy h
    have CY:=H (aC y (kE hy) wr ao ay);clear ay az;generalize y.all p0=q at*;cases q with
    |true=>
     exact ZE
    |false=>
     have HE:jI ((!aB)=R):=H (by rw[av.out,aa.out rfl];rfl);clear aa;go_wp2_with fail;refine(CY).mono ?_;rintro e w5 ⟨rfl,hb5⟩;have HB5:=H (HF.trans (hb5.mono K));clear hb5;go_wp2;go_returns;exact⟨by rw[HE.out];rfl,HB5.out⟩
   .obtain rfl:k=aq:=K
    have HE:jI ((!aB)=O):=by
     unfold jI;have aF:s.take k=s:=by rw[<-ak.out,lM]
     have aA:=ax.out;rw[aF]at aA;rw[av.out,<-au.out,aA];rfl
    exact M4
def ZF(x:nS TL)(w:M)(v:jC)(J:o6 w v x.sub)(hc:x.count<=1000):
  jG jy 54 #[nI #[Y X x.lab.kind,Y X x.lab.size,v,Y X x.lab.tail]] w λe w'=>e=nK (nH (nS.pF p0 x.sub&&qc x))/\jD w.heap.size w w':=by
 obtain⟨oa,cap,rfl,N,C⟩:=o6.slice J;obtain⟨g,hg⟩:=og w.heap.size;have A:=H (vG (k:=x.lab.kind) (z:=x.lab.size) (l:=x.lab.tail) (t:=63) J);have aj:x.sub.length<=9223372036854775807:=by unfold jN at C;omega
 have aa:=H (λ(W:M) (h:o6 W (u oa x.sub.length cap) x.sub)=>UF x W _ h hc);obtain⟨aq,ae⟩:=og x.sub.length;have ak:=H ae;obtain⟨ar,af⟩:=og (nS.pF p0 x.sub);have au:=H af;rw[hg]at A|-;rw[ae]at A aj aa|-;rw[af];generalize qc x=mt at*;clear J N C ae af hc;go_in;go_upto_region 1 with fail;generalize w.alloc (nL #[Y X x.lab.kind,Y X x.lab.size,u oa aq cap,Y X x.lab.tail] 63)=w1 at*;obtain⟨E,ht1,hsz,c0,c1,c2,c3⟩:=A.out _ rfl;have ag:=H (jF E ht1);have ah:=H (jF c0 (jF c1 (jF c2 c3)));clear A E ht1;go_wp2_with fail;clear c0 c1 c3;go_loopw [3] (λiv aC=>∃k:Nat,iv=Y X k/\k<=aq/\jI (nS.pF p0 (x.sub.take k)=R)/\jI (jD (g+1) w1 aC)) (λiv _=>aq -(kC iv).toNat);case atStart=>exact⟨0,rfl,K,by simp[jI,nS.pF],H (jE _ _)⟩
 case round=>
  obtain⟨k,rfl,hk,av,hbe⟩:=hrel;have aF:wr.cell? (Z g 2 V)=U (u oa aq cap):=(hbe.cell (p:=(Z g 2 V)) (lF g)).trans c2;have ax:jI (jD g w wr):=H (ag.1.trans (hbe.mono K));have hgr:g+1<=wr.heap.size:=by have:=hbe.size;omega
  by_cases c:k<aq
  .obtain⟨y,hy⟩:∃y,x.sub[k]? =U y:=⟨_,jL (by rw[ak.out];exact c)⟩
   obtain⟨b,off,ao,rfl,hlt,aG,aH,y2,aI,ay,az⟩:=o6.at_ (Shape.om.below ag.2 (hsz▸hbe.out)) hy;have HT:jI (nS.pF p0 (x.sub.take (k+1))=y.all p0):=H (by rw[nS.xC hy,av.out];rfl);have I:jI (y.all p0=O->ar=O):=H λh=>by rw[<-au.out];exact nS.uH hy h
   have CY:=H (WU y wr ao ay);clear ay az;generalize y.all p0=q at*;cases q with
   |true=>
    exact ZE
   |false=>
    have ai:jI (ar=O):=H (I rfl);clear I;go_wp2_with fail;refine(CY).mono ?_;rintro e w5 ⟨rfl,hb5⟩;have HB5:=H (ax.trans (hb5.mono K));clear hb5;go_wp2;go_returns;exact⟨by rw[ai.out,Bool.false_and];rfl,HB5.out⟩
  .obtain rfl:k=aq:=K
   have ai:jI (ar=R):=by
    unfold jI;have aD:x.sub.take k=x.sub:=by rw[<-ak.out,lM]
    have aA:=av.out;rw[aD]at aA;rw[<-au.out,aA]
   have aJ:=(hbe.cell (p:=(Z g 0 V)) (lF g)).trans ah.1;have aK:=(hbe.cell (p:=(Z g 1 V)) (lF g)).trans ah.2.1;have aL:=(hbe.cell (p:=(Z g 3 V)) (lF g)).trans ah.2.2.2;have aB:=H (aa wr (Shape.om.below ag.2 (hsz▸hbe.out)));clear aa;go_wp2_with fail;refine(aB).mono ?_;rintro e w5 ⟨rfl,hb5⟩;have HB5:=H (ax.trans (hb5.mono K));clear hb5;go_wp2;go_returns;exact⟨by rw[ai.out,mQ];rfl,HB5.out⟩
def Fz(x:nS TL)(w:M)(v:jC)(ah:o6 w v x.sub)(ae:qK w):
  jG jy 122 #[nI #[Y X x.lab.kind,Y X x.lab.size,v,Y X x.lab.tail]] w λe w'=>e=nK (nH (nS.pF p0 x.sub&&qc x))/\jD w.heap.size w w':=by
 have J:=ae.lt;have af:=H (vG (k:=x.lab.kind) (z:=x.lab.size) (l:=x.lab.tail) (t:=63) ah);obtain⟨g,hg⟩:=og w.heap.size;rw[hg]at af J|-;have av:=H (λ(W:M) (h:jD g w W)=>ae.below h J);clear ah ae;have C:=H (λ(W:M) (h:o6 W v x.sub) (ax:qK W)=>Ec x W v h ax);have ai:=H (λ(W:M) (h:o6 W v x.sub)=>WT x W v h);generalize qc x=mt at*;generalize nS.pF p0 x.sub=ar at*;go_in;go_upto_region 1 with fail;generalize w.alloc (nL #[Y X x.lab.kind,Y X x.lab.size,v,Y X x.lab.tail] 63)=w1 at*;obtain⟨E,ht1,hsz,c0,c1,c2,c3⟩:=af.out _ rfl;have N:=H (C w1 ht1 (av w1 E));have ag:=H (jF E ht1);have hlt:g<w1.heap.size:=K;clear af E ht1 C hsz;cases mt with
 |false=>
  go_wp2_with fail;refine(N).mono ?_;rintro e w2 ⟨rfl,A⟩;have I:=H (ag.1.trans (A.mono K));clear A;go_wp2;go_returns;exact⟨by rw[Bool.and_false];rfl,I.out⟩
 |true=>
  go_wp2_with fail;refine(N).mono ?_;rintro e w2 ⟨rfl,A⟩;have I:=H (ag.1.trans (A.mono K));have ay:=(A.cell (p:=(Z g 0 V)) hlt).trans c0;have az:=(A.cell (p:=(Z g 1 V)) hlt).trans c1;have aA:=(A.cell (p:=(Z g 2 V)) hlt).trans c2;have aB:=(A.cell (p:=(Z g 3 V)) hlt).trans c3;have aj:=H (ai w2 (Shape.om.below ag.2 A));have ak:g<=w2.heap.size:=by have:=A.size;omega
  clear A c0 c1 c2 c3 ai;go_wp2_with fail;refine(aj).mono ?_;rintro e w3 ⟨rfl,aa⟩;have au:=H (I.trans (aa.mono ak));clear aa;go_wp2;go_returns;exact⟨by rw[Bool.and_true];rfl,au.out⟩
end
section
open Go.RowKit Go.Maps
noncomputable def strKeys{P:lQ}{k:jX}(hk:P.underlying k=U .string):Fq P k An where
 kv:=G
 kl s:=.string s.data.toList
 ok s:=s.size<=jN
 am:=string_keyed hk
 lay x hx:=Go.WideMaps.keyOf_string_mk hk hx
 inv v l h:=by obtain⟨s,A,C,_⟩:=Go.WideMaps.string_of_keyOf hk h;exact⟨s,A,C⟩
 inj x y h:=Go.WideShapes.bytes_inj (by simpa using h)
 key x:=trivial
def tT:IW (Array jC) where
 ev a:=nI a
 ar v:=match v with| nI a=>U (.held a,[])|_=>V
 lay x:=rfl
 inv v z h:=by
  cases v<;>simp at h;exact⟨_,rfl,h.symm⟩
noncomputable def NmK:Fq jy 9 An:=strKeys lU
noncomputable def IdK:Fq jy 50 Int:=intKeys Tryz.underlying50
abbrev RgT:jX:=137
abbrev Hr:jX:=128
structure RC where
 i:Nat
 nm:An
 tx:An
 k:Int
 z:Int
 ou:Option kW
 nu:Nat
 cu:Nat
 tl:Int
def RC.cs(x:RC):Array jC:=#[Y nN x.i,G x.nm,G x.tx,Y X x.k,Y X x.z,u x.ou x.nu x.cu,Y X x.tl]
def Ei:RC:=⟨0,⟨#[]⟩,⟨#[]⟩,0,0,V,0,0,0⟩
structure oV where
 r:Row
 ou:Option kW
 cu:Nat
def oV.rc(x:oV):RC:=⟨x.r.id,x.r.name,x.r.text,x.r.ty.lab.kind,x.r.ty.lab.size,x.ou,x.r.ty.sub.length,x.cu,x.r.ty.lab.tail⟩
def Jt(c:oO):jC:=if c.fmt=1 then .func (.func 85) #[nI #[Y X c.dep,Y X c.pq]] #[]else .func (.func 83) #[nI #[Y X c.dep,Y X c.pq]] #[]
def LA(c:oO):jC:=if c.fmt=1 then .func (.func 86) #[nI #[Y X c.dep,Y X c.pq]] #[]else .func (.func 84) #[nI #[Y X c.dep,Y X c.pq]] #[]
structure qG(r bn bi:Nat)(c:oO)(L:List oV)(w:M):Prop where
 rg:nU w r #[Y X c.fmt,Y nO c.mag,Y X c.pV,Y X c.qH,Y X c.dep,Y X c.pq,.map (U bn),.map (U bi),Jt c,LA c] RgT
 nm:qU NmK tT w bn L.length (L.map λx=>(x.r.name,x.rc.cs))
 id:qU IdK tT w bi L.length (L.map λx=>((x.r.id:Int),x.rc.cs))
 sq:∀x,x∈L->oD.om w (λk=>r<k) (u x.ou x.r.ty.sub.length x.cu) x.r.ty.sub
 may:∀x,x∈L->qc x.r.ty=R/\(c.fmt=1->(nS.pF p0 x.r.ty.sub&&qc x.r.ty)=R)/\x.r.name.size<=12
def qG.sub{r bn bi:Nat}{c:oO}{L:List oV}{w:M}(h:qG r bn bi c L w)(x:oV)(A:x∈L):o6 w (u x.ou x.r.ty.sub.length x.cu) x.r.ty.sub:=(h.sq x A).keep (jB _) (λ_ _ _=>trivial) λ_ _ _=>rfl
def qG.below{r bn bi:Nat}{c:oO}{L:List oV}{w w':M}(h:qG r bn bi c L w)(hb:jD w.heap.size w w'):qG r bn bi c L w':=
 ⟨Below.blk hb h.rg h.rg.lt,h.nm.below hb,h.id.below hb,λx A=>Shape.om.below (h.sq x A) hb,h.may⟩
def Cw[DecidableEq κ](f:oV->κ)(k:κ):∀L:List oV,vE (L.map λx=>(f x,x.rc.cs)) k=(L.find? λx=>At (f x=k)).map λx=>x.rc.cs
 |[]=>rfl
 |x::L=>by
  have A:=Cw f k L;unfold vE at*;rw[mf,List.find?_cons,List.find?_cons];dsimp only;rw[show(f x==k)=At (f x=k)from rfl];cases At (f x=k)with
  |true=>rfl
  |false=>exact A
def row_zero(w:M):(zeroValue Hr).run jy w=.ok (tT.ev Ei.cs) w:=rfl
def fnd(L:List oV)(p:oV->Bool):RC:=match L.find? p with|some x=>x.rc|none=>Ei
def PQ[DecidableEq κ](f:oV->κ)(k:κ)(L:List oV):(vE (L.map λx=>(f x,x.rc.cs)) k).getD Ei.cs=(fnd L λx=>At (f x=k)).cs/\(vE (L.map λx=>(f x,x.rc.cs)) k).isSome=(L.find? λx=>At (f x=k)).isSome:=by
 rw[Cw];unfold fnd;cases L.find? λx=>At (f x=k)with
 |none=>exact⟨rfl,rfl⟩
 |some x=>exact⟨rfl,rfl⟩
def qG.look{r bn bi:Nat}{c:oO}{L:List oV}{w:M}(h:qG r bn bi c L w)(s:An)(hs:s.size<=jN):
  (lV 130 (.map (U bn)) (G s) R).run jy w=.ok (nJ #[nI (fnd L λx=>At (x.r.name=s)).cs,nH (L.find? λx=>At (x.r.name=s)).isSome]) w:=by
 have A:=qU.look_ok (x:=s) h.nm Tryz.underlying130 row_zero hs;obtain⟨e1,e2⟩:=PQ (λx:oV=>x.r.name) s L;rw[e1,e2]at A;exact A
def UW{n:Nat}(hn:n<18446744073709551616):(kY nN (n:Int)).wf=R:=by
 have:(0:Int)<=n/\(n:Int)<=18446744073709551615:=K;simpa [Lit.wf,IntKind.min,IntKind.max,IntKind.signed,IntKind.bits]using this
def qG.a5s{r bn bi:Nat}{c:oO}{L:List oV}{w:M}(h:qG r bn bi c L w)(n:Nat)(hn:n<18446744073709551616):
  (lV 131 (.map (U bi)) (Y nN n) R).run jy w=.ok (nJ #[nI (fnd L λx=>At ((x.r.id:Int)=(n:Int))).cs,nH (L.find? λx=>At ((x.r.id:Int)=(n:Int))).isSome]) w:=by
 have A:=qU.look_ok (x:=(n:Int)) h.id Tryz.underlying131 row_zero (UW hn);obtain⟨e1,e2⟩:=PQ (λx:oV=>(x.r.id:Int)) (n:Int) L;rw[e1,e2]at A;exact A
end
end Go.Proofs.YtamfcjmhnndbdaaGreatDoor


