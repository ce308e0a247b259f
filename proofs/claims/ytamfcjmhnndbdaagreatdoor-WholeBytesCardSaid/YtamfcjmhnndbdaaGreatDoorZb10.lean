/- Part 10 of the proof. -/
import Derived.Test.YtamfcjmhnndbdaaGreatDoorZb09
import Derived.LaidMore
import Derived.Stop.Joined
import Derived.Lib.LaidTab
open Go.Value renaming agg→mI,bool→mH,int→V,pointer→mG,slice→G,string→H,tuple→mJ,ownBlock→jK,slice→jM
open Go.Obj renaming cells→mM
open Go.IntKind renaming i64→X,u32→mQ,u64→mP
open Go.Ending renaming returned→mK
open Go.Lib renaming hid→Y,splitN→kY
open Go.Proofs.Tryz renaming prog→iN
open Go renaming World→K,Value→iQ,Calls→iW,maxLen→jd,TypeId→jl,undef→jw,Addr→j4,Program→j6,Oper→kC,Act→lY
open Go.RowKit renaming Below→iR,Hid→R,intOf→jF
open And renaming intro→iU
open List renaming replicate→jC
open Go.World renaming setCell→jr
open UInt8 renaming ofNat→jH
open Go.Instr renaming index→jX
open Go.Code renaming region→jZ
open Go.Region renaming wanted→lG
open Go.Sem renaming run→lJ
open Go.Act renaming put→l7
open Option renaming none→U,some→O
open Bool renaming true→u,false→M
open Go.Addr renaming mk→Z
open Decidable renaming decide→As
namespace Go.Proofs.YtamfcjmhnndbdaaGreatDoor
set_option linter.unusedVariables false
set_option linter.defProp false
set_option linter.unusedSimpArgs false
set_option maxRecDepth 100000
set_option maxHeartbeats 8000000
variable{B b g:Nat}{Q:Exit->lY->K->Prop}{S:An}{W w w' w0 ws:K}{a0:lY}{l:List AC}{p:Prop}
variable {P:j6}{e:jl}
section
open Go.RowKit
abbrev WfT:jl:=141
def a2c:Array iQ:=#[.nilFunc,.nilFunc,.nilFunc,.nilFunc]
structure V7(Bs:K->Prop)(lim:Nat)(x y z ar:iQ)(da ds:Bool)(va:iQ)(W:K):Prop where
 bs:Bs W
 al:da=u->∃b,va=mG (O (Z b 0 U))/\lim<=b/\mY W b (if ds=u then#[x,y,z,ar]else a2c) WfT
 lt:lim<=W.heap.size
section
variable {Bs:K->Prop}{lim:Nat}{x y z ar:iQ}{da ds:Bool}{va:iQ}{W W':K}
def V7.below(qP:∀W W',Bs W->iR lim W W'->Bs W')(h:V7 Bs lim x y z ar da ds va W)(hb:iR W.heap.size W W'):V7 Bs lim x y z ar da ds va W':=by
 exact V5
def V7.made(qP:∀W W',Bs W->iR lim W W'->Bs W')(h:V7 Bs lim x y z ar M M va W):V7 Bs lim x y z ar u M (mG (O (Z W.heap.size 0 U))) (W.alloc (mM a2c WfT)):=
 ⟨qP _ _ h.bs ((iT lim W).alloc h.lt _),λ_=>⟨_,rfl,h.lt,mY.new W a2c WfT⟩,by have:=h.lt;simp;omega⟩
def V7.fill(qP:∀W W',Bs W->iR lim W W'->Bs W')(h:V7 Bs lim x y z ar u M va W):∃b,va=mG (O (Z b 0 U))/\mY W b a2c WfT/\V7 Bs lim x y z ar u u va (zt W b x y z ar):=by
 have⟨b,e,hl,hB⟩:=h.al rfl;have hB:=hB;exact⟨b,e,hB,qP _ _ h.bs (uF (iT lim W) hl),λ_=>⟨b,e,hl,rT hB⟩,jk h.lt (uF (iT lim W) hl).size⟩
end
noncomputable def Hr:List kC:=cO (cL (cR (cR (cB Tryz.f37))))
section
variable (g:Nat)(c:nU)(f1 f2 f3 f4:FuncId)(lim:Nat)(Bs:K->Prop)
def zG:Nat->iQ
 |0=> mI Af
 |1=> mG (O (Z g 0 U))
 |2=> V X c.fmt
 |3=> mI #[.func (.func f1) #[] #[],.func (.func f2) #[] #[],.func (.func f3) #[] #[],.func (.func f4) #[] #[]]
 |_=>jw
structure a2d(D:Nat->Bool)(vs:Nat->iQ)(w:K):Prop where
 nP:V7 Bs lim (.func (.func f1) #[] #[]) (.func (.func f2) #[] #[]) (.func (.func f3) #[] #[]) (.func (.func f4) #[] #[]) (D 4) (D 5) (vs 4) w
 val:∀j,(j !=4)=u->D j=u->vs j=zG g c f1 f2 f3 f4 j
variable {g c f1 f2 f3 f4 lim Bs}
def a2e{D:Nat->Bool}{vs:Nat->iQ}(h:a2d g c f1 f2 f3 f4 lim Bs D vs w){i:Nat}(hi:i≠4/\i≠5)(A:V7 Bs lim (.func (.func f1) #[] #[]) (.func (.func f2) #[] #[]) (.func (.func f3) #[] #[]) (.func (.func f4) #[] #[]) (D 4) (D 5) (vs 4) w->V7 Bs lim (.func (.func f1) #[] #[]) (.func (.func f2) #[] #[]) (.func (.func f3) #[] #[]) (.func (.func f4) #[] #[]) (D 4) (D 5) (vs 4) w'):a2d g c f1 f2 f3 f4 lim Bs (zR D i) (zS vs i (zG g c f1 f2 f3 f4 i)) w':=by
 refine⟨?_,uj h.val⟩;rw[nz D (show 4≠i by omega)];rw[nz D (show 5≠i by omega)];rw[nM vs (zG g c f1 f2 f3 f4 i) (show 4≠i by omega)];exact A h.nP
def a4K{id:Nat}(qP:∀W ae,Bs W->iR lim W ae->Bs ae)(ht2:a0.tmps.getD 2 jw=mG (O (Z g 0 U)))(hbc:∀W,Bs W->W.cell? (Z g 0 U)=O (V X c.fmt))(hix:∀W,lJ iN (jX 142 (mI Af) (V X c.fmt)) W=.ok (mI #[.func (.func f1) #[] #[],.func (.func f2) #[] #[],.func (.func f3) #[] #[],.func (.func f4) #[] #[]]) W)(hsz:a0.tmps.size=48)(hI0:∀vs:Nat->iQ,(λw=>V7 Bs lim (.func (.func f1) #[] #[]) (.func (.func f2) #[] #[]) (.func (.func f3) #[] #[]) (.func (.func f4) #[] #[]) M M (vs 4) w) ws.drew)(au:∀(vs:Nat->iQ) (w:K),V7 Bs lim (.func (.func f1) #[] #[]) (.func (.func f2) #[] #[]) (.func (.func f3) #[] #[]) (.func (.func f4) #[] #[]) u u (vs 4) w->Q .normal {a0 with tmps:=vG a0.tmps [(15,mI Af),(16,mG (O (Z g 0 U))),(17,V X c.fmt),(18,mI #[.func (.func f1) #[] #[],.func (.func f2) #[] #[],.func (.func f3) #[] #[],.func (.func f4) #[] #[]]),(6,vs 4)]} w):
  (jZ id Hr.toArray u).wp iN Q a0 ws:=by
 refine nJ 6 48 (a2d g c f1 f2 f3 f4 lim Bs) mZ hsz mZ (.inl rfl) mZ ?_ ?_ ?_;.exact qg
 .refine rR λA av=> ?_
  replace qP:=Y qP;replace ht2:=Y ht2;replace hbc:=Y hbc;replace hix:=Y hix;dsimp+instances only[Hr,cO,cL,cR,cB,Tryz.f37];simp only[jm,jI,qU];refine⟨?_,?_,?_,?_,?_,?_,trivial⟩<;>(intro D vs a w aq hI hd E af C N;subst av;dsimp+instances only[Hr,cO,cL,cR,cB,Tryz.f37])
  .have qP:=qP.out
   have ax:=Di w;rw[Ax (by rfl)];go_simp;refine pG ax λaB hb=> ?_
   exact N (zG g c f1 f2 f3 f4 0) _ _ rfl (a2e hI (i:=0) mX λh=>h.below qP hb)
  have e2:=(C 2 mX).trans ht2.out;rotate_left;have hbc:=hbc.out;have ag:=fe C hI.val E 16 1;simp only[zG]at ag;have c0:=hbc w hI.nP.bs;rotate_left;have hix:=hix.out;have ah:=fe C hI.val E 15 0;have ai:=fe C hI.val E 17 2;simp only[zG]at ah ai;have q:=hix w;rotate_left
  .have qP:=qP.out
   have J:=hI.nP;have d5:=af 5 mX mZ;rw[hd,d5]at J;go_simp;refine N (mG (O (Z w.heap.size 0 U))) _ _ rfl ⟨?_,I9 rfl hI.val⟩;rw[nL,nz D (show 5≠4 by decide),o6,d5];exact J.made qP
  .have qP:=qP.out
   have d4:=E 4 mX mZ;have aj:a.tmps.getD 6 jw=vs 4:=C 6 mX;have ak:=fe C hI.val E 18 3;simp only[zG]at ak;have J:=hI.nP;rw[d4,hd]at J;have⟨b,ev,hB,ay⟩:=J.fill qP;have aj:=aj.trans ev;have z0:=hB.cell 0;have az:=hB.cell 1;have aA:=hB.cell 2;have z3:=hB.cell 3;have⟨aD,aF,aG,aH⟩:=hB.f4;simp only[a2c,ji,jb,jc]at z0 az aA z3;go_simp;rw[uu];refine N jw _ _ rfl ⟨?_,uj hI.val⟩;rw[nL,nz D (show 4≠5 by decide),nM vs _ (show 4≠5 by decide),d4];exact ay
  all_goals
   go_simp;exact N _ _ _ rfl ⟨hI.nP,uj hI.val⟩
 .intro D vs w aa hI
  have E:=hI.nP;rw[aa 4 mX]at E;rw[aa 5 mX]at E;have q:=au vs w E;rw[oD hI.val aa];dsimp+instances only[Hr,cO,cL,cR,cB,Tryz.f37];exact qf
end
end
section
open Go.RowKit Go.Maps
def TP(id:Nat)(b A:An)(w:K)(hid:id<18446744073709551616)(hb:(oz id).length+A.size<=65536)(E:iW iN 147 #[H b] w (sw A 0 w)):
  iW iN 109 #[V mP id,H b] w (sw (ED id A) 0 w):=by
 have af:=Y (λW=>Ws id A W hid hb);have ag:=Y E;have⟨ah,J⟩:=nE (sw (ED id A) 0 w);have ai:=Y J;rw[J];go_in;go_wp2_with fail;refine pG ag λw2 N=> ?_
 have C:=Y N;go_wp2_with fail;refine pG (af _) λw3 aa=> ?_
 have ae:=Y aa;go_wp2;try go_returns
 rw[<-ai.out];exact⟨rfl,C.trans (ae.mono C.size)⟩
def QL(F:tJ)(w:K):
  iW iN 96 #[mI #[V mP F.id,H F.name,H F.body]] w λe w'=>e=mK (mH (As (F.name.size=0)))/\iR w.heap.size w w':=by
 have hbk:=mY.new w #[V mP F.id,H F.name,H F.body] pR;have c1:=hbk.c1;have A:=Y ((iT w.heap.size w).alloc (iP _) (mM #[V mP F.id,H F.name,H F.body] pR));by_cases h:F.name.size=0
 .have C:(F.name.toList==([]:List AC))=u:=by rw[wO];simp[h]
  rw[a8 h];go_in;go_wp2;go_returns;exact⟨rfl,A.out⟩
 .have C:(F.name.toList==([]:List AC))=M:=by rw[wO];simp[h]
  rw[bh h];go_in;go_wp2;go_returns;exact⟨rfl,A.out⟩
def a2f(h:p:=by
 subst hW;have a1:=(iT w.heap.size w).alloc (iP _) (mM #[V X c.fmt,V mQ c.mag,V X c.oL,V X c.pq,V X c.dep,V X c.oo] rG);have k2:=mY.new (w.alloc (mM #[V X c.fmt,V mQ c.mag,V X c.oL,V X c.pq,V X c.dep,V X c.oo] rG)) #[V mP F.id,H F.name,H F.body] pR;rw[show(w.alloc (mM #[V X c.fmt,V mQ c.mag,V X c.oL,V X c.pq,V X c.dep,V X c.oo] rG)).heap.size=g+1 by simp[hg]]at k2;exact⟨(hg▸mY.new w _ _:mY _ g _ _).alloc _,k2,a1.alloc ny _⟩):p:=h
def a2g(c:nU)(F:tJ)(A:An)(w:K)(hid:F.id<18446744073709551616)(av:(F.body.size:Int)<=c.pq)(au:F.body.size<=100000)(hb:(oz F.id).length+A.size<=65536)(J:∀W,iR w.heap.size w W->iW iN 147 #[H F.body] W (sw A 0 W)):
  iW iN 108 #[mI #[V X c.fmt,V mQ c.mag,V X c.oL,V X c.pq,V X c.dep,V X c.oo],mI #[V mP F.id,H F.name,H F.body]] w (sw (ED F.id A) 0 w):=by
 obtain⟨g,hg⟩:=o7 w;have N:R (∀W,(w.alloc (mM #[V X c.fmt,V mQ c.mag,V X c.oL,V X c.pq,V X c.dep,V X c.oo] rG)).alloc (mM #[V mP F.id,H F.name,H F.body] pR)=W->mY W g #[V X c.fmt,V mQ c.mag,V X c.oL,V X c.pq,V X c.dep,V X c.oo] rG/\mY W (g+1) #[V mP F.id,H F.name,H F.body] pR/\iR w.heap.size w W):=Y λW hW=>by
  exact a2f
 have ai:=Y (λ(W:K) (hW:iR w.heap.size w W)=>TP F.id F.body A W hid hb (J W hW));have t1:As ((F.body.size:Int)>c.pq)=M:=nk;have⟨aj,aa⟩:=nE (sw (ED F.id A) 0 w);have ak:=Y aa;rw[aa];go_in;go_upto_region 1 with fail;have⟨hc,ae,C⟩:=N.out _ rfl;generalize (w.alloc _).alloc _=w1 at*;have c3:=hc.c3;have f0:=ae.c0;have f2:=ae.c2;have E:=Y C;have af:=Y (ai w1 C);go_wp2_with fail;refine pG af λw2 ag=> ?_
 have ah:=Y ag;go_wp2;try go_returns
 rw[<-ak.out];exact⟨rfl,E.trans (ah.mono E.size)⟩
def Yn(c:nU)(F:tJ)(aa:An)(w:K)(hc:nV c=u)(au:c.wf)(aI:c.fmt=3)(av:F.name.size=0)(hid:F.id<18446744073709551616)(aJ:(F.body.size:Int)<=c.pq)(ax:F.body.size<=100000)(hb:(oz F.id).length+aa.size<=65536)(ah:(ED F.id aa).size<=jd)(ay:∀W,iR w.heap.size w W->iW iN 147 #[H F.body] W (sw aa 0 W))(ai:(nxv (qA c.oL c.pq (ED F.id aa) U).1).e≠5):
  iW iN 37 #[mI #[V X c.fmt,V mQ c.mag,V X c.oL,V X c.pq,V X c.dep,V X c.oo],mI #[V mP F.id,H F.name,H F.body]] w (sw (ED F.id aa) 0 w):=by
 obtain⟨g,hg⟩:=o7 w;have aK:R (∀W,(w.alloc (mM #[V X c.fmt,V mQ c.mag,V X c.oL,V X c.pq,V X c.dep,V X c.oo] rG)).alloc (mM #[V mP F.id,H F.name,H F.body] pR)=W->mY W g #[V X c.fmt,V mQ c.mag,V X c.oL,V X c.pq,V X c.dep,V X c.oo] rG/\mY W (g+1) #[V mP F.id,H F.name,H F.body] pR/\iR w.heap.size w W):=Y λW hW=>by
  exact a2f
 have aV:R (∀W,iW iN 67 #[mI #[V X c.fmt,V mQ c.mag,V X c.oL,V X c.pq,V X c.dep,V X c.oo]] W λe w'=>e=mK (mH u)/\iR W.heap.size W w'):=Y λW=>hc▸Ci c W
 have aW:R (∀W,iW iN 96 #[mI #[V mP F.id,H F.name,H F.body]] W λe w'=>e=mK (mH u)/\iR W.heap.size W w'):=Y λW=>by have:=QL F W;rwa [a8 av]at this
 have aL:=Y (λ(W:K) (hW:iR w.heap.size w W)=>a2g c F aa W hid aJ ax hb λaX aM=>ay aX (hW.trans (aM.mono hW.size)));have⟨P,az⟩:=nE (ED F.id aa);rw[az]at ah ai aL|-;have⟨y,hy⟩:=nE (nxv (qA c.oL c.pq P U).1);have aY:R (∀W,iW iN 110 #[mI #[V X c.fmt,V mQ c.mag,V X c.oL,V X c.pq,V X c.dep,V X c.oo],mG U,H P] W λe w'=>e=mK (mJ #[mI #[V mP y.id,H y.name,H y.body],V X y.n,V X y.e])/\iR W.heap.size W w'):=Y λW=>(Iu c P U W ah hc au trivial).mono λe w' h=>by
  have⟨aj,_,aN⟩:=K5.1 h;rw[hy]at aN;exact⟨aN,aj.os,aj.tape,aj.output,aj.size,λk hk=>aj.block k hk (by simp[nY])⟩
 rw[hy]at ai;have bu:((y.e:Int)==5)=M:=qJ;have aO:R (∀W,lJ iN (jX 142 (mI Af) (V X c.fmt)) W=.ok (mI #[.func (.func 96) #[] #[],.func (.func 108) #[] #[],.func (.func 110) #[] #[],.func (.func 107) #[] #[]]) W):=Y (aI▸Ur);have⟨aZ,aH⟩:=nE (sw P 0 w);have bg:=Y aH;rw[aH];clear hc au aI av hid aJ ax hb ah ay ai aH az hy;go_in;go_upto_region 1 with fail;have⟨aA,aP,aQ⟩:=aK.out _ rfl;generalize (w.alloc _).alloc _=w1 at*;have⟨c0,c1,c2,c3,c4,c5⟩:=aA.a6;have N:=Y (iU aA (iU aP aQ));go_wp2_with fail;refine pG (aV _) λw2 ak=> ?_
 have J:R (mY w2 g #[V X c.fmt,V mQ c.mag,V X c.oL,V X c.pq,V X c.dep,V X c.oo] rG/\mY w2 (g+1) #[V mP F.id,H F.name,H F.body] pR/\iR w.heap.size w w2):=Y ⟨a7 ak N.1 N.1.lt,a7 ak N.2.1 N.2.1.lt,N.2.2.trans (ak.mono N.2.2.size)⟩;go_upto_region 3 with fail;refine a4K (g:=g) (c:=c) (f1:=96) (f2:=108) (f3:=110) (f4:=107) (lim:=w2.heap.size) (Bs:=iR w2.heap.size w2) (ht2:=by rfl) (qP:=λ_ _ h hb=>h.trans hb) (hbc:=λW hW=>(a7 hW J.1 J.1.lt).cell 0) (hix:=aO.out) (hsz:=by rfl) (hI0:=λ_=>⟨nN w2,(λh=>by cases h),(nN w2).size⟩) ?_;intro vs W3 hF;have⟨b,ev,bq,aR⟩:=hF.al rfl;have C:R (mY W3 g #[V X c.fmt,V mQ c.mag,V X c.oL,V X c.pq,V X c.dep,V X c.oo] rG/\mY W3 (g+1) #[V mP F.id,H F.name,H F.body] pR/\iR w.heap.size w W3/\mY W3 b #[.func (.func 96) #[] #[],.func (.func 108) #[] #[],.func (.func 110) #[] #[],.func (.func 107) #[] #[]] WfT):=Y ⟨a7 hF.bs J.1 J.1.lt,a7 hF.bs J.2.1 J.2.1.lt,J.2.2.trans (hF.bs.mono J.2.2.size),aR⟩;simp only[vG,iX,jg,jf];rw[ev];have⟨aB,aD,aF⟩:=C.2.2.2.a3;have⟨c0,c1,c2,c3,c4,c5⟩:=C.1.a6;have⟨z0,aS,aU⟩:=C.2.1.a3;go_wp2_with fail;refine pG (aW _) λbz ae=> ?_
 have A:=Y (iU (a7 ae C.1 C.1.lt) (iU (a7 ae C.2.1 C.2.1.lt) (iU (C.2.2.1.trans (ae.mono C.2.2.1.size)) (a7 ae C.2.2.2 C.2.2.2.lt))));have⟨aB,aD,aF⟩:=A.2.2.2.a3;have⟨c0,c1,c2,c3,c4,c5⟩:=A.1.a6;have⟨z0,aS,aU⟩:=A.2.1.a3;go_wp2_with fail;refine pG (aL _ A.2.2.1) λbA af=> ?_
 have E:=Y (iU (a7 af A.1 A.1.lt) (iU (a7 af A.2.1 A.2.1.lt) (iU (A.2.2.1.trans (af.mono A.2.2.1.size)) (a7 af A.2.2.2 A.2.2.2.lt))));have⟨aB,aD,aF⟩:=E.2.2.2.a3;have⟨c0,c1,c2,c3,c4,c5⟩:=E.1.a6;have⟨z0,aS,aU⟩:=E.2.1.a3;go_wp2_with fail;refine pG (aY _) λbB ag=> ?_
 have aG:=Y (iU (a7 ag E.1 E.1.lt) (iU (a7 ag E.2.1 E.2.1.lt) (iU (E.2.2.1.trans (ag.mono E.2.2.1.size)) (a7 ag E.2.2.2 E.2.2.2.lt))));go_wp2;try go_returns
 rw[<-bg.out];exact⟨rfl,aG.2.2.1.trans ((iT _ _).alloc aG.2.2.1.size _)⟩
def JU{t s:jl}(T:pE P t e s)(S:An)(J:S.size<=1000000)(w:K):
  ∃cap w',(convert s t (H S)).run P w=.ok (G (O (Z w.heap.size 0 U)) S.size cap) w'/\qo w' w.heap.size e (G (O (Z w.heap.size 0 U)) S.size cap) S.data.toList/\iR w.heap.size w w'/\w'.heap.size=w.heap.size+1/\S.size<=cap/\cap<=jd:=by
 have A:S.data.toList.length=S.size:=jR;have C:=grownCap_ge w S.size 0 e;have E:=grownCap_le_maxLen w S.size 0 e yF;refine⟨_,_,run_bytes_of_string w s t e S T.hs T.ht T.he,.inr ⟨w.heap.size,grownCap w S.size 0 e,_,_,by rw[A],iP _,heap_alloc_new w.drew _,.inr (iP _),by rw[A];exact C,E,?_,?_⟩,((iT _ _).drew).alloc (iP _) _,ny,C,E⟩;.exact VK
 .simp only[bytesRow,ma,Array.toList_map]
  rw[dr ny];rfl
def b0L(B:Nat)(v:iQ)(l:List AC)(s:An)(w:K)(J:qo w B 5 v l)(hl:l.length<=1000)(h0:s.size≠0)(af:s.size<=60)(hB:B<=w.heap.size):
  iW iN 185 #[v,H s] w λe w'=>∃v',e=mK v'/\Ns B v w v' (l++[jH (4*(s.size - 1))]++s.data.toList) w':=by
 have t0:((s.size:Int)==0)=M:=qJ;go_in
 go_wp2_with (first
  |(at_builtin;refine JI NV rfl _ _ rfl B v l [jH (4*(s.size - 1))] 1 rfl w _ (EB (n:=4*(s.size - 1)) I I) rfl J rfl I hB ?_;intro v' w' C A E;have N:=Y (Ns.of C A E);have aa:=jk hB A.size;clear C A E)
  |(at_builtin;refine Tg NV rfl _ _ rfl B v' (l++[jH (4*(s.size - 1))]) s w' rfl N.own rfl nk aa ?_;intro v2 w3 C A E;have ae:=Y (Ns.of C A E);clear C A E))
 go_returns;exact⟨_,rfl,N.trans ae.out⟩
def S7(w0:K)(g:Nat)(A:iQ)(out:List AC)(W:K):Prop:=qo W (g+1) 5 A out/\iR g w0 W/\g+1<=W.heap.size
def a9n(s:An)(w:K)(h0:s.size≠0)(aQ:s.size<4):
  iW iN 147 #[H s] w (sw ⟨(oz s.size++[jH (4*(s.size - 1))]++s.data.toList).toArray⟩ 0 w):=by
 have bC:=@run_makeMap iN;obtain⟨g,hg⟩:=o7 w;have⟨cap,w1,J,bD,ag,aD,_,_⟩:=JU NV s I w;have aF:R (∀v l W,qo W (g+1) 5 v l->l.length<=1000->g+1<=W.heap.size->_):=Y λv l W aR aS aU=>b0L (g+1) v l s W aR aS h0 I aU
 have aG:R (s.extract 0 s.size=s):=Y (ByteArray.extract_zero_size);have⟨N,av⟩:=nE s.size;have aH:=aG;rw[av]at aF|-;have⟨bH,aI⟩:=nE (oz N++[jH (4*(N - 1))]++s.data.toList);have aV:=Y aI;rw[aI];have aJ:=Y (Mf N w1 I);have aK:=Tf N I;rw[hg]at J aD ag;rw[av]at h0 aQ J;have aL:=Y ag;have aW:=Y hg;have aX:=Y av;have⟨C,ah⟩:∃S:An,(⟨(oz N).toArray⟩:An)=S:=⟨_,rfl⟩;have ax:C.data.toList=oz N:=by rw[<-ah]
 have ai:=Y ax;have aj:=Y aK;rw[ah]at aJ;go_in;go_wp2_with fail;refine pG aJ λw2 aa=> ?_
 have⟨A,w3,ay,ae,aM,aN,_,_⟩:=JU NV C (by have:=aj.out;have e:C.data.toList.length=C.size:=jR;rw[ai.out]at e;omega) w2;obtain⟨g2,ak⟩:=o7 w2;have az:g+1<=g2:=by have:=aa.size;omega
 have aY:R (∀W,w3.alloc (.map #[] 0)=W->S7 w g (G (O (Z g2 0 U)) C.size A) (oz N) W):=Y λW aZ=>by
  subst aZ;rw[ak]at ae aN;rw[ai.out]at ae;have a3:=(iT w3.heap.size w3).alloc (iP _) (.map #[] 0);have b3:=aa.trans (aM.mono aa.size);exact⟨(ae.base az).below a3,aL.trans ((b3.trans (a3.mono b3.size)).mono I),nk⟩
 rw[ak]at ay;go_upto_region 6 with fail;have bg:=Y (aY _ rfl);generalize w3.alloc _=w4 at*;go_wp2;go_loopw [5,7,8] (λbq bu iv aA=>∃i:Nat,bq=G (O (Z g2 0 U)) C.size A/\bu=V X 0/\iv=V X i/\i<=N/\R (S7 w g (G (O (Z g2 0 U)) C.size A) (oz N) aA)) (λ_ _ iv _=>N -(jF iv).toNat);case atStart=>exact⟨0,rfl,rfl,rfl,jB _,bg⟩
 case round=>
  obtain⟨i,rfl,rfl,rfl,bE,E⟩:=hrel;have c6:N<i+4:=I;by_cases ci:i<N
  .go_wp2
   go_loopw [65,8] (λaB iv aA=>∃q:Nat,aB=V X q/\iv=V X ((i+q:Nat):Int)/\q<=1/\R (S7 w g (G (O (Z g2 0 U)) C.size A) (oz N) aA)) (λaB _ _=>1 -(jF aB).toNat);case atStart=>exact⟨0,rfl,rfl,I,E⟩
   case round=>
    obtain⟨q,rfl,rfl,bF,aO⟩:=hrel;have c7:N<i+q+4:=I;by_cases bz:q=0
    .subst bz
     go_wp2;go_roundw;case rel=>exact⟨0+1,by go_num,by go_num,I,aO⟩
     case measure=>(simp[jF]<;>omega)
    .obtain rfl:q=1:=I
     go_wp2;go_roundw;case rel=>exact⟨i+1,rfl,rfl,rfl,I,aO⟩
     case measure=>simp[jF];omega
  .obtain rfl:i=N:=I
   have af:=aF.out _ _ wr E.1 (by have:=aj.out;omega) E.2.2;rw[aV.out]at af;have af:=Y af;have bG:s.extract 0 i=s:=by have:=aH.out;rwa [aX.out]at this
   go_wp2_with fail;refine af.mono ?_;rintro e w5 ⟨v1,rfl,au⟩;have bA:=au.own.string NV;have aP:=Y (E.2.1.trans (au.kp.below (λc hc bB=>by have:=(E.1.blk c bB).1;omega) (by have:=E.2.2;omega)));go_wp2;try go_returns
   exact⟨rfl,by rw[aW.out];exact aP.out⟩
end
section
open Go.RowKit
abbrev L7T:jl:=244
def NS{v:iQ}(h:nS w B e v l)(hk:∀b,B<=b->w'.heap[b]? =w.heap[b]?):nS w' B e v l:=by
 refine⟨h.1,?_⟩;rcases h.2 with C|⟨g,cap,A,E,hg,J,r⟩
 .exact .inl C
 .exact .inr ⟨g,cap,A,E,hg,by rw[hk g hg];exact J,r⟩
def a2h{v:iQ}(h:nS w B e v l):∃oa n cap,v=G oa n cap:=by
 rcases h.2 with⟨rfl,h0⟩|⟨g,cap,A,rfl,_⟩
 .exact⟨U,0,0,rfl⟩
 .exact⟨_,_,cap,rfl⟩
def NT{t s:jl}(T:pE P t e s){ops:Array kC}{o:kC}{a:lY}{aq:lY->K->Prop}{E:Prop}(C:o.guard=U)(x y:Operand)(ho:o.op=.call {callee:=.builtin .append,args:=#[x,y],argTypes:=#[t,s]})(B:Nat)(v:iQ)(l:List AC)(S:An)(w:K)(ae:a.eval x=v)(A:nS w B e v l)(hy:a.eval y=H S)(hlen:l.length+S.size<=140737488355328)(hB:B<=w.heap.size)(h:∀v' w',nS w' B e v' (l++S.data.toList)->w.grownBy w' v.ownBlock->aq (a.put o.dst v') w'):
  if lG o (yielded ops a.tmps)=u then Oper.wp P o a w aq Q else E:=by
 have af:lG o (yielded ops a.tmps)=u:=by simp[lG,C]
 rw[Ax af];have⟨ag,hi,J,N,aa⟩:=info_parts T.hi;have⟨v',w',ah,ai,aj,_⟩:=Lib.run_append_own_string (P:=P) w B t s o.type e ag T.ht T.hs hi J N aa v l.length (nI l) A S yF I hB;unfold Oper.wp execOp;simp only[ho,resolve,invoke,builtin,Sem.run_bind,Sem.run_pure,lK,dc,lg,cE,ae,hy];rw[ah];refine h v' w' ?_ aj;have e1:Lib.strCells S=nI S.data.toList:=by simp[Lib.strCells,nI]
 show w'.ownsRow B e 1 v' (l++S.data.toList).length (nI (l++S.data.toList));rw[jo,pF,<-e1];have e2:S.data.toList.length=S.size:=ny;rw[e2];exact ai
structure P7(w0:K)(g b:Nat)(it v:iQ)(l:List AC)(W:K):Prop where
 blk:mY W b #[it,v] L7T
 own:nS W (b+1) 5 v l
 pV:iR g w0 W
 lt:g<=b
section
variable {w0:K}{g b:Nat}{it v:iQ}{l:List AC}{W W':K}
def P7.below(h:P7 w0 g b it v l W)(hb:iR W.heap.size W W'):P7 w0 g b it v l W':=⟨a7 hb h.blk h.blk.lt,h.own.below hb,h.pV.trans (hb.mono (by have:=h.blk.lt;have:=h.lt;omega)),h.lt⟩
end
structure R7(w0:K)(g b x:Nat)(S:An)(it:iQ)(d s:Bool)(v:iQ)(W:K):Prop where
 blk:mY W b #[it,if s=u then v else G U 0 0] L7T
 own:d=u->nS W (b+1) 5 v S.data.toList/\∃o n c,v=G o n c
 nil:nS W (b+1) 5 (G U 0 0) []
 ib:mY W x #[H S,mH M,G U 0 0] 47
 pV:iR g w0 W
 lt:g<=b/\b<x/\x<W.heap.size
def R7.below{x:Nat}{it v:iQ}{d s:Bool}{A:K}(h:R7 w0 g b x S it d s v W)(hb:iR W.heap.size W A):R7 w0 g b x S it d s v A:=
 ⟨a7 hb h.blk h.blk.lt,λhd=>⟨(h.own hd).1.below hb,(h.own hd).2⟩,h.nil.below hb,a7 hb h.ib h.ib.lt,h.pV.trans (hb.mono (by have:=h.lt;omega)),h.lt.1,h.lt.2.1,jy h.lt.2.2 hb.size⟩
section
variable {w0:K}{g b x:Nat}{S:An}{it v v2:iQ}{W W2:K}
def R7.grown(h:R7 w0 g b x S it M M v W)(C:nS W2 (b+1) 5 v2 S.data.toList)(A:W.grownBy W2 (jM U 0 0).ownBlock)(E:∃o n c,v2=G o n c):R7 w0 g b x S it u M v2 W2:=by
 have hk:∀c,c<W.heap.size->W2.heap[c]? =W.heap[c]? :=λc hc=>A.block c hc (by simp[jK])
 have q:=h.below ⟨A.os,A.tape,A.output,A.size,hk⟩;exact⟨q.blk,λ_=>⟨C,E⟩,q.nil,q.ib,q.pV,q.lt⟩
def R7.put(h:R7 w0 g b x S it u M v W):R7 w0 g b x S it u u v (W.setCell (Z b 1 U) v):=by
 have hl:=h.lt;have⟨ho,A⟩:=h.own rfl;have hk:∀c,b+1<=c->(W.setCell (Z b 1 U) v).heap[c]? =W.heap[c]? :=λc hB=>jh _ _ _ _ (λe=>by simp only at e;omega)
 exact⟨by rw[Ax rfl];exact h.blk.set 1 v,λ_=>⟨NS ho hk,A⟩,NS h.nil hk,h.ib.setOther (a:=(Z b 1 U)) (λe=>by simp only at e;omega) _,h.pV.setCell (p:=(Z b 1 U)) hl.1 _,hl.1,hl.2.1,by simpa [jr]using hl.2.2⟩
end
noncomputable def NU:List kC:=cO (cR (cR (cR (cR (cR (cR (cL (cL (cL (cR (cR (cR (cR (cB Tryz.f161))))))))))))))
section
variable (w0:K)(g b x:Nat)(S:An)(it:iQ)
def Fz:Nat->iQ
 |0=> mG (O (Z b 0 U))
 |1=> mG (O (Z b 0 U))
 |2=> mG (O (Z b 0 U))
 |3=> mG (O (Z b 1 U))
 |4=> G U 0 0
 |5=> mG (O (Z x 0 U))
 |6=> H S
 |8=> mG (O (Z b 0 U))
 |9=> mG (O (Z b 1 U))
 |_=>jw
structure b0M(D:Nat->Bool)(vs:Nat->iQ)(w:K):Prop where
 nP:R7 w0 g b x S it (D 7) (D 10) (vs 7) w
 val:∀j,(j !=7)=u->D j=u->vs j=Fz b x S j
variable {w0 g b x S it}
def a7J{id:Nat}(y8:a0.tmps.getD 6 jw=mG (O (Z b 0 U)))(ht8:a0.tmps.getD 8 jw=mG (O (Z x 0 U)))(hSz:S.size<=1000)(hsz:a0.tmps.size=116)(hI0:∀vs:Nat->iQ,(λw=>R7 w0 g b x S it M M (vs 7) w) ws.drew)(av:∀(vs:Nat->iQ) (w:K),R7 w0 g b x S it u u (vs 7) w->Q .normal {a0 with tmps:=vG a0.tmps [(106,mG (O (Z b 0 U))),(107,mG (O (Z b 0 U))),(108,mG (O (Z b 0 U))),(109,mG (O (Z b 1 U))),(110,G U 0 0),(111,mG (O (Z x 0 U))),(112,H S),(113,vs 7),(114,mG (O (Z b 0 U))),(115,mG (O (Z b 1 U)))]} w):
  (jZ id NU.toArray u).wp iN Q a0 ws:=by
 refine nJ 11 116 (b0M w0 g b x S it) mZ hsz mZ (.inl rfl) mZ ?_ ?_ ?_;.exact qg
 .refine rR λA ax=> ?_
  replace y8:=Y y8;replace ht8:=Y ht8;replace hSz:=Y hSz;dsimp+instances only[NU,cO,cL,cR,cB,Tryz.f161];simp only[jm,jI,qU];refine⟨?_,?_,?_,?_,?_,?_,?_,?_,?_,?_,?_,trivial⟩<;>(intro D vs a w aq hI hd E ag C N;subst ax;dsimp+instances only[NU,cO,cL,cR,cB,Tryz.f161]);have ay:=(C 6 mX).trans y8.out;rotate_left;have ay:=(C 6 mX).trans y8.out;rotate_left;have az:=fe C hI.val E 107 1;rotate_left;have aA:=fe C hI.val E 108 2;rotate_left
  .have ah:=fe C hI.val E 109 3
   simp only[Fz]at ah;have hs:=ag 10 mX mZ;have c1:=hI.nP.blk.c1;rw[hs]at c1;go_simp;exact N _ _ _ rfl ⟨hI.nP,uj hI.val⟩
  have aG:=(C 8 mX).trans ht8.out;rotate_left
  .have ai:=fe C hI.val E 111 5
   simp only[Fz]at ai;have c0:=hI.nP.ib.c0;go_simp;exact N _ _ _ rfl ⟨hI.nP,uj hI.val⟩
  .have hSz:=hSz.out
   have aa:=fe C hI.val E 110 4;have ae:=fe C hI.val E 112 6;simp only[Fz]at aa ae;have hs:=ag 10 mX mZ;have J:=hI.nP;rw[hd,hs]at J;refine NT NV (by rfl) (.tmp 110) (.tmp 112) (by rfl) (b+1) (G U 0 0) [] S w aa J.nil ae (by have:=hSz;simp;omega) (by have:=J.lt;omega) ?_;intro v w2 au aB;refine N _ _ _ rfl ⟨?_,I9 rfl hI.val⟩;rw[nL,nz D (show 10≠7 by decide),o6];rw[hs];exact J.grown au aB (a2h au)
  have aD:=fe C hI.val E 106 0;rotate_left;have aF:=fe C hI.val E 114 8;rotate_left
  .have d7:=E 7 mX mZ
   have af:a.tmps.getD 113 jw=vs 7:=C 113 mX;have aj:=fe C hI.val E 115 9;simp only[Fz]at aj;have J:=hI.nP;rw[hd,d7]at J;have⟨ho,aH,sn,aI,ev⟩:=J.own rfl;have af:=af.trans ev;have c1:=J.blk.c1;have f1:=J.blk.free 1;go_simp;refine N jw _ _ rfl ⟨?_,uj hI.val⟩;rw[nL,nz D (show 7≠10 by decide),nM vs _ (show 7≠10 by decide)];rw[d7,ev];rw[ev]at J;exact J.put
  all_goals
   try simp only[Fz]at*
   go_simp;exact N _ _ _ rfl ⟨hI.nP,uj hI.val⟩
 .intro D vs w ak hI
  have E:=hI.nP;rw[ak 7 mX]at E;rw[ak 10 mX]at E;have q:=av vs w E;rw[oD hI.val ak];dsimp+instances only[NU,cO,cL,cR,cB,Tryz.f161];exact qf
end
def JV(w:K):rf w (G U 0 0) []:=⟨U,0,rfl,iP _,jB _,λh=>absurd h ny⟩
def b0N(S:An)(A:S.size=1)(W:K):iW iN 195 #[mI #[H S,mH M,G U 0 0]] W λe w'=>e=mK (mH u)/\iR W.heap.size W w':=by
 have h:=O8 (.node ⟨S.data.toList,M⟩ []) W (G U 0 0) (JV W);have e:txt (⟨S.data.toList,M⟩:IL)=S:=by simp[txt]
 simp only[mW.oW,e]at h;exact h
def Gl(b:Nat)(W:K):Nat:=match W.cell? (Z b 0 U)with|some (G _ n _)=>n|_=>0
def JW{n c:Nat}{o:Option j4}{v:iQ}(h:mY W b #[G o n c,v] L7T):Gl b W=n:=by
 unfold Gl;rw[show W.cell? (Z b 0 U)=O (G o n c)from h.cell 0]
def PL7(w0:K)(g:Nat)(S:An)(W:K):Prop:=
 (P7 w0 g (g+1) (G (O (Z g 0 U)) 1 1) (G U 0 0) [] W/\mY W g #[H S,mH M,G U 0 0] 47)\/
 ∃o v,P7 w0 g (g+1) (G o 0 0) v S.data.toList W/\∃q n c,v=G q n c
def b0O{w3 w4:K}(hg:w.heap.size=g)(A:w.alloc (mM #[H S,mH M,G U 0 0] IT)=w3)(C:w3.alloc (mM #[G (O (Z w.heap.size 0 U)) 1 1,G U 0 0] L7T)=w4):PL7 w g S w4/\Gl (g+1) w4<=1:=by
 rw[hg]at C;have E:w3.heap.size=g+1:=by rw[<-A];simp;omega
 have b3:iR g w w3:=by rw[<-A,<-hg];exact(iT _ w).alloc (iP _) _
 have b4:iR (g+1) w3 w4:=by rw[<-C,<-E];exact(iT _ w3).alloc (iP _) _
 have N:mY w3 g #[H S,mH M,G U 0 0] IT:=by have:=mY.new w #[H S,mH M,G U 0 0] IT;rw[A,hg]at this;exact this
 have J:mY w4 (g+1) #[G (O (Z g 0 U)) 1 1,G U 0 0] L7T:=by have:=mY.new w3 #[G (O (Z g 0 U)) 1 1,G U 0 0] L7T;rw[C,E]at this;exact this
 exact⟨.inl ⟨⟨J,nS.nil _ _ _,b3.trans (b4.mono I),I⟩,a7 b4 N I⟩,by rw[JW J];exact iP _⟩
def b0P{it v:iQ}{A:K}(h:P7 w0 g b it v l W)(C:W.alloc (mM #[H S,mH M,G U 0 0] 47)=A):
  P7 w0 g b it v l A/\mY A W.heap.size #[H S,mH M,G U 0 0] 47/\A.heap.size=W.heap.size+1:=by
 subst C;exact⟨h.below ((iT _ _).alloc (iP _) _),mY.new W _ _,ny⟩
section
variable {w0:K}{g b x:Nat}{it it2 v:iQ}{l:List AC}{S:An}{W:K}
def P7.items(h:P7 w0 g b it v l W):P7 w0 g b it2 v l (W.setCell (Z b 0 U) it2):=
 ⟨h.blk.set 0 it2,NS h.own λc hB=>jh _ _ _ _ (λe=>by simp only at e;omega),h.pV.setCell (p:=(Z b 0 U)) h.lt _,h.lt⟩
def R7.ini(h:P7 w0 g b it (G U 0 0) [] W)(A:mY W x #[H S,mH M,G U 0 0] 47)(C:b<x/\W.heap.size=x+1):R7 w0 g b x S it M M v W.drew:=
 ⟨h.blk,nofun,h.own.drew,A,h.pV.drew,h.lt,C.1,by show _<W.heap.size;omega⟩
def R7.fin{o q:Option j4}{n c:Nat}(h:R7 w0 g (g+1) x S (G o 0 0) u u v W)(A:v=G q n c):PL7 w0 g S W/\Gl (g+1) W=0:=
 ⟨.inr ⟨o,v,⟨h.blk,(h.own rfl).1,h.pV,h.lt.1⟩,q,n,c,A⟩,JW h.blk⟩
end
def a9p(S:An)(ax:S.size=1)(af:∀h:0<S.size,S[0].toNat<128)(w:K):
  iW iN 161 #[mI #[H S,mH M,G U 0 0]] w λe w'=>e=mK (mJ #[H S,V X 0])/\iR w.heap.size w w':=by
 have E:0<S.size:=I;have aD:=Y (vg (T:=S) (l:=M) (t:=IT) (JV w));obtain⟨g,hg⟩:=o7 w;have aU:R (∀W,iW iN 195 #[mI #[H S,mH M,G U 0 0]] W λe w'=>e=mK (mH u)/\iR W.heap.size W w'):=Y λW=>b0N S ax W
 have aF:((S.size:Int) !=1)=M:=by rw[ax];rfl
 have e1:As (128<=S[0].toNat)=M:=by have:=af E;simpa using this
 have aG:=Y ax;have ay:=Y (iU aF (iU e1 (af E)));rw[hg]at aD|-;go_in;go_upto_region 1 with fail;generalize w.alloc (mM #[H S,mH M,G U 0 0] IT)=w1 at*;have⟨aH,_,hsz,c0,c1,c2,_⟩:=aD.out _ rfl;have aV:=Y aH;have bz:=hsz;go_wp2_with fail;refine pG (aU _) λw2 C=> ?_
 have bA:=(C.cell (p:=(Z g 0 U)) (show g<w1.heap.size by omega)).trans c0;have bB:=(C.cell (p:=(Z g 1 U)) (show g<w1.heap.size by omega)).trans c1;have bC:=(C.cell (p:=(Z g 2 U)) (show g<w1.heap.size by omega)).trans c2;have aI:=Y (aV.trans (C.mono (show g<=w1.heap.size by omega)));have aJ:=Y (show g+1<=w2.heap.size by have:=C.size;omega);obtain⟨ao,az⟩:=o7 w2;have J:R (∀w3 w4,w2.alloc (mM #[H S,mH M,G U 0 0] IT)=w3->w3.alloc (mM #[G (O (Z w2.heap.size 0 U)) 1 1,G U 0 0] L7T)=w4->PL7 w2 ao S w4/\Gl (ao+1) w4<=1):=Y λw3 w4 aW aX=>b0O az aW aX
 have aK:=Y az;clear az;go_wp2_with fail;have N:=J.out _ _ rfl rfl;generalize (w2.alloc (mM #[H S,mH M,G U 0 0] IT)).alloc (mM #[G (O (Z w2.heap.size 0 U)) 1 1,G U 0 0] L7T)=w4 at*;have aL:=Y N.1;rw[aK.out];clear N J;go_loopw [5] (λvr aA=>vr=G (O (Z (ao+1) 0 U)) 1 1/\R (PL7 w2 ao S aA)) (λ_ aA=>Gl (ao+1) aA);case atStart=>exact⟨rfl,aL⟩
 case round=>
  obtain⟨rfl,aM⟩:=hrel;rcases aM.out with⟨A,hI⟩|⟨o,v,A,q,n,c,rfl⟩
  .have⟨r0,r1⟩:=A.blk.a2
   have⟨aY,i1,i2⟩:=hI.a3;have aN:R (∀W,wr.alloc (mM #[H S,mH M,G U 0 0] 47)=W->_):=Y λW h=>b0P A h
   have aO:ao+1<wr.heap.size:=A.blk.lt;have aZ:R (Gl (ao+1) wr=1):=Y (JW A.blk);clear A hI;go_upto_region 14 with fail;generalize wr.alloc (mM #[H S,mH M,G U 0 0] 47)=w5 at*;have aP:=aN.out _ rfl;obtain⟨aa,ag,ah⟩:=aP;have⟨bg,bq⟩:=aa.blk.b1;have ai:=Y aa;have aj:=Y ag;clear aa ag aN r0 r1 aY i1 i2;have ae:=P7.items ai (it2:=G (O (Z ao 0 U)) 0 0);have ak:R (mY (w5.setCell (Z (ao+1) 0 U) (G (O (Z ao 0 U)) 0 0)) wr.heap.size #[H S,mH M,G U 0 0] 47):=Y (aj.setOther (a:=(Z (ao+1) 0 U)) (λe=>by simp only at e;omega) _);have aQ:=Y ae;have au:(w5.setCell (Z (ao+1) 0 U) (G (O (Z ao 0 U)) 0 0)).heap.size=wr.heap.size+1:=by simpa [jr]using ah
   clear ae;go_upto_region 15 with fail;generalize w5.setCell (Z (ao+1) 0 U) (G (O (Z ao 0 U)) 0 0)=bD at*;have⟨bE,bF⟩:=ak.a2;have aR:=Y (iU aO au);clear bg bq ah au ai aj;have aF:=ay.1;have e1:=ay.2.1;have hb:=ay.2.2;go_upto_region 19 with fail;refine a7J (w0:=w2) (g:=ao) (b:=ao+1) (x:=wr.heap.size) (S:=S) (it:=G (O (Z ao 0 U)) 0 0) (y8:=by rfl) (ht8:=by rfl) (hSz:=by have:=aG.out;omega) (hsz:=by rfl) (hI0:=λ_=>R7.ini aQ ak aR) ?_;intro vs W aB;simp only[vG,iX,jg,jf];have⟨q,n,c,bu⟩:=(aB.own rfl).2;have av:R (PL7 w2 ao S W/\Gl (ao+1) W=0):=Y (R7.fin aB bu);clear aB;go_wp2;go_roundw;case rel=>exact⟨rfl,Y av.1⟩
   case measure=>rw[av.2,aZ.out];exact Nat.zero_lt_one
  .have⟨r0,r1⟩:=A.blk.a2
   have ae:=A.own.string NV;have aS:=Y (aI.trans (A.pV.mono (show g<=ao by have:=aJ.out;have:=aK.out;omega)));clear A aM;go_wp2;go_returns;exact⟨rfl,aS.out⟩
def TQ(w:K):rf w (G U 0 0) []:=⟨U,0,rfl,iP _,jB _,λh=>absurd h ny⟩
def wfA:cA.wf:=⟨rfl,rfl,rfl,rfl,rfl,rfl⟩
def a2i:nV cA=u:=by rfl
def a7K(ao sb r bn bi:Nat)(ou:Option j4)(cu:Nat)(w:K)(hs:yg w ao r sb [] 0 0)(hlt:ao<=sb/\ao<=w.heap.size)(A:∀W,iR ao w W->pY r bn bi cA [⟨Ex,ou,cu⟩] W)(ai:∀W,iR ao w W->qB W):
  iW iN 15 #[mG (O (Z sb 0 U)),mI #[H ym,H ⟨#[7]⟩,mH M,G U 0 0]] w λe w'=>e=mK (mJ #[H Ey,V X 0])/\yg w' ao r sb [] 0 0/\iR ao w w':=by
 have hput:∀W,iR w.heap.size w W->iW iN 37 #[mI #[V X cA.fmt,V mQ cA.mag,V X cA.oL,V X cA.pq,V X cA.dep,V X cA.oo],mI #[V mP (⟨5,⟨#[]⟩,⟨#[7]⟩⟩:tJ).id,H (⟨5,⟨#[]⟩,⟨#[7]⟩⟩:tJ).name,H (⟨5,⟨#[]⟩,⟨#[7]⟩⟩:tJ).body]] W (sw Ey 0 W):=λW _=>by
  have h:=Yn cA ⟨5,⟨#[]⟩,⟨#[7]⟩⟩ ⟨#[1,0,7]⟩ W a2i wfA rfl rfl mX mX mX (by rw[qW 5 mX];decide) (by rw[a2b];decide) (λN _=>a9j▸a9n ⟨#[7]⟩ N mX mX) (by
   rw[a2b];intro h0;have:=a9k;rw[show cA.oL=50 from rfl,show cA.pq=50 from rfl]at h0;rw[h0]at this;cases this)
  rw[a2b]at h;exact h
 have henc:∀W,iR w.heap.size w W->iW iN 36 #[mG (O (Z r 0 U)),mI #[H ym,H ⟨#[7]⟩,mH M,G U 0 0]] W λe N=>e=mK (mJ #[mI #[V mP (⟨5,⟨#[]⟩,⟨#[7]⟩⟩:tJ).id,H (⟨5,⟨#[]⟩,⟨#[7]⟩⟩:tJ).name,H (⟨5,⟨#[]⟩,⟨#[7]⟩⟩:tJ).body],V X 0])/\iR W.heap.size W N:=λW aj=>by
  have C:=aj.mono hlt.2;have ae:([⟨Ex,ou,cu⟩]:List oJ).find? (λx=>As (x.r.name=ym))=O ⟨Ex,ou,cu⟩:=by simp[Ex]
  have h:=TM r bn bi cA [⟨Ex,ou,cu⟩] ym ⟨#[7]⟩ M U 0 0 ⟨#[7]⟩ 0 W (A W C) mX (λx af ak J=>by
   rw[ae]at af;cases af;have au:=Qn 1 1 0 ou 0 cu ⟨#[7]⟩ M U 0 0 2 9 ⟨#[7]⟩ 0 ak (λW3 ag=>by
    have E:=C.trans ((J.trans (ag.mono J.size)).mono (jk hlt.2 C.size));have aa:=(A W3 E).sub ⟨Ex,ou,cu⟩ ny;have ah:=a1Z tyA xA W3 (G ou 0 cu) (G U 0 0) aa (TQ W3) mX (λav _=>a9p ⟨#[7]⟩ rfl (λ_=>(by decide:(7:AC).toNat<128)) av) (ai W3 E) 2 9;rw[a9i,Ax rfl,b0K]at ah;exact ah)
   exact au)
  rw[ae]at h;exact h
 exact a2a ao sb r bn bi cA [⟨Ex,ou,cu⟩] [] 0 0 ym ⟨#[7]⟩ M U 0 0 ⟨5,⟨#[]⟩,⟨#[7]⟩⟩ 0 0 Ey w hs hlt A henc (λ_=>hput)
def Yo(w:K)(au:qB w)(av:BC w):iW iN 8 #[] w λe w'=>e=mK (mH u)/\iR w.heap.size w w':=by
 obtain⟨g,hg⟩:=o7 w;have ax:R (∀W,w.alloc (mM #[V mP 5,H ym,H u8A] 67)=W->CJ W (G (O (Z g 0 U)) 1 1) [eA]/\iR g w W/\W.heap.size=g+1):=Y λW aK=>by
  subst aK;have hb:=mY.new w #[V mP 5,H ym,H u8A] 67;rw[hg]at hb;refine⟨⟨O (Z g 0 U),1,rfl,iP _,mX,λi e he=> ?_⟩,hg▸(iT w.heap.size w).alloc (iP _) _,by simp[hg]⟩;have hi:i=0:=by
   have:=(jU.1 he).1;simpa using this
  subst hi;simp at he;subst he;exact⟨g,0,rfl,by simp[hg],hb.cell 0,hb.cell 1,hb.cell 2⟩
 have ay:1<g:=hg▸au.lt;have az:0<g:=hg▸av.lt;have J:R (∀W,iR g w W->qB W/\BC W):=Y λW h=>⟨au.below h ay,av.below h az⟩
 have aL:R (∀W,CJ W (G (O (Z g 0 U)) 1 1) [eA]->qB W->iW iN 27 #[mI #[V X 3,V mQ 0,V X 50,V X 50,V X 2,V X 9],G (O (Z g 0 U)) 1 1] W (AQ cA [eA] W)):=Y λW ah E=>
  VE cA [eA] _ W ah (λe he=>by simp at he;subst he;exact⟨mX,mX,mX⟩) E
 have aM:R (∀ao sb r bn bi ou cu w,yg w ao r sb [] 0 0->ao<=sb/\ao<=w.heap.size->(∀W,iR ao w W->pY r bn bi cA [⟨Ex,ou,cu⟩] W)->(∀W,iR ao w W->qB W)->
   iW iN 15 #[mG (O (Z sb 0 U)),mI #[H ⟨#[112,105,110,103]⟩,H ⟨#[7]⟩,mH M,G U 0 0]] w λe w'=>e=mK (mJ #[H Ey,V X 0])/\yg w' ao r sb [] 0 0/\iR ao w w'):=Y λao sb r bn bi ou cu w ah E ai aj=>a7K ao sb r bn bi ou cu w ah E ai aj
 unfold ym u8A at ax;go_in;go_wp2_with fail;have⟨aA,af,aR⟩:=ax.out _ rfl;have aB:=(J _ af).1;have aD:=Y (aL _ aA aB);generalize w.alloc _=w1 at*;refine aD.mono ?_;rintro e w2 ⟨aF,E⟩;rw[b0J]at E;obtain⟨ao,sb,r,bn,bi,L,rfl,hL,aN,hl,ak⟩:=E;obtain⟨ou,cu,rfl⟩:∃ou cu,L=[⟨Ex,ou,cu⟩]:=by
  cases L with
  |nil=>simp at hL
  |cons aO L=>
   cases L with
   |nil=>
    obtain⟨r0,ou,cu⟩:=aO;simp at hL;subst hL;exact⟨ou,cu,rfl⟩
   |cons _ _=>simp at hL
 have ag:=Y (af.trans (aF.mono I));have A:R (∀W,iR ao w2 W->pY r bn bi cA [⟨Ex,ou,cu⟩] W/\qB W/\BC W):=Y λW h=>by
  have ai:=ag.trans (h.mono I);exact⟨ak W h,J W ai⟩
 have N:R (ao<=sb/\ao<=w2.heap.size/\g<=ao):=Y I;have aG:=Y (aM ao sb r bn bi ou cu w2 aN ⟨N.1,N.2.1⟩ (λW h=>(A W h).1) (λW h=>(A W h).2.1));go_wp2_with fail;refine vF aG λw3 aH aa=> ?_
 have aI:=Y aa;have aJ:=Y (a1c ao sb r bn bi cA [⟨Ex,ou,cu⟩] [] 0 0 Ey w3 a2i wfA aH ⟨N.1,by have:=aa.size;have:=N.out;omega⟩ mX (λW h=>A.out W (aa.trans h)));go_wp2_with fail;refine aJ.mono ?_;rintro e w4 ⟨mb,lv,Lm,rfl,hF⟩;have hF:Ql cA [Ex] ao r sb mb [] 0 0 Ey w3 lv Lm w4:=hF;have⟨nd,MB⟩:=a9l mb;obtain⟨f1,f2,f3,f4⟩:=hF;simp only[lg,cE];rw[MB]at f2 f3|-;dsimp only at f2 f3|-;obtain⟨y,rfl,hy⟩:∃y,Lm=[y]/\y.m=⟨ym,xA⟩:=by
  cases Lm with
  |nil=>simp at f2
  |cons y Lm=>
   cases Lm with
   |nil=>simp at f2;exact⟨y,rfl,f2⟩
   |cons _ _=>simp at f2
 obtain⟨oa,cap,rfl⟩:=f1.slice;obtain⟨b,rfl,_,hlt,_,_,C,_⟩:=pz.at_ f1.1 Vf (i:=0) (y:=y) rfl;have ae:=C 0 mX;have aS:w4.cell? (Z b 0 U)=O (H ⟨#[112,105,110,103]⟩):=by
  have:(mcl y)[0]? =O (H ym):=by unfold mcl;rw[hy];rfl
  rw[this]at ae;have aj:w4.cell? (Z b 0 U)=O (H ym):=by simpa using ae
  exact aj
 have aP:=Y (Np ao r sb [] nd 0 w4 f3);have aQ:R (iR g w w4):=Y (ag.trans ((aI.trans f4).mono (by have:=N.out;omega)));clear f1 f2 f3 f4 MB hy hlt C aJ ae;simp only[jD,dq];go_wp2_with fail;refine vE aP ?_;go_wp2;try go_returns
 exact⟨rfl,by rw[hg];exact aQ.out⟩
def Ba{W:K}{name:String}{k:IntKind}{zs:List Int}{g:Nat}{t:jl}{n:Nat}(hg:P.globalNamed name=O g)(A:(P.globals[g]?).map (·.type)=O t)(ht:P.underlying t=O (.array n e))(he:P.underlying e=O (.int k))(C:P.cellsOf e=1)(E:P.cellsOf t=n):
  ∀{l:List (String×DataW Unit)}{ps:List MemPlace},DataW.LaidVars P W l ps->(name,Lib.tabData k zs)∈l->Lib.TabIs P W name k zs
 |[],_,_,h=>by cases h
 |(m,d)::l,ps,hl,h=>by
  obtain⟨af,ag,cs,fuel,p,q,N,aa,J,hd,ae,_⟩:=hl;rcases l5.1 h with h|h
  .obtain⟨rfl,rfl⟩:=Prod.mk.inj h
   obtain rfl:=kU (hg.symm.trans N);obtain rfl:=kU (A.symm.trans aa);unfold Lib.TabIs;rw[J,<-Lib.cells_of_tab ht he C E hd]
  .exact Ba hg A ht he C E ae h
def a5t:Tryz.prog.globalNamed "hatchway/schema.uintSizes" =O 1:=mZ
def Yp:(Tryz.prog.globals[1]?).map (·.type)=O 312:=mZ
def TR:Tryz.prog.cellsOf 312=4:=mZ
def LM:Tryz.prog.cellsOf 3=1:=mZ
def V8:Tryz.prog.globalNamed "hatchway/compact.behind" =O 0:=mZ
def Yq:(Tryz.prog.globals[0]?).map (·.type)=O 283:=mZ
def TS:Tryz.prog.cellsOf 283=3:=mZ
def a2j(h:laidMetH iN [("unicode/utf8.acceptRanges",Rows.laid_unicode_utf8_acceptRanges),("hatchway/compact.behind",Rows.laid_hatchway_compact_behind),("hatchway/schema.uintSizes",Rows.laid_hatchway_schema_uintSizes),("unicode/utf8.first",Rows.laid_unicode_utf8_first)] W):qB W/\BC W:=by
 rw[MakeChecks.laidMetH_plain _ _ _ mZ]at h;obtain⟨ps,C,_⟩:=h;have e1:(Rows.laid_hatchway_schema_uintSizes:DataW Unit)=Lib.tabData .i64 [1,2,4,8]:=rfl;have e2:(Rows.laid_hatchway_compact_behind:DataW Unit)=Lib.tabData .i64 [2,4,8]:=rfl;have E:=Ba (zs:=[1,2,4,8]) a5t Yp Tryz.underlying312 l6 LM TR C (by rw[<-e1];simp);have A:=Ba (zs:=[2,4,8]) V8 Yq Tryz.underlying283 l6 LM TS C (by rw[<-e2];simp);refine⟨?_,A.cell V8 0 mX,A.cell V8 1 mX,A.cell V8 2 mX⟩;intro i hi;have hc:=E.cell a5t i (by simpa using hi);rw[hc];have:i=0\/i=1\/i=2\/i=3:=I;rcases this with rfl|rfl|rfl|rfl<;>rfl
def V9(h:p:=by
 go_wp2_with fail;refine pG (CR _ (HF _ K9)) λw3 hb3=> ?_
 have La:=Y (HF _ (C3X _ K9 _ hb3));go_wp2;go_returns;exact⟨rfl,La.out⟩):p:=h
def QM(c:nU)(a1:Option j4)(zF wJ:Nat)(ae:List tV)(s:An)(w:K)(bQ:c.wf)(he:SQ w a1 zF wJ ae)(bR:s.size<=jd)(aO:qB w/\BC w):
  iW iN 3 #[c.v,G a1 zF wJ,H s] w λe w'=>e=mK (mH u)/\iR w.heap.size w w':=by
 obtain⟨dL,ay⟩:=he;obtain⟨g,hg⟩:=o7 w;have bS:1<g:=hg▸aO.1.lt;have bT:0<g:=hg▸aO.2.lt;have af:R (∀W,iR g w W->qB W/\BC W):=Y λW h=>⟨aO.1.below h bS,aO.2.below h bT⟩
 have ah:R (∀W,iR g w W->CJ W (G a1 zF wJ) ae):=Y λW h=>dL.below (hg.symm▸h)
 have aS:=Y bQ;have dM:R (∀W,iR g w W->iW iN 8 #[] W λe w'=>e=mK (mH u)/\iR W.heap.size W w'):=Y λW h=>Yo W (af W h).1 (af W h).2
 have CR:R (∀W,iR g w W->iW iN 9 #[mI #[V X c.fmt,V mQ c.mag,V X c.oL,V X c.pq,V X c.dep,V X c.oo],G a1 zF wJ] W λe w'=>e=mK (mH (Fj c ae))/\iR W.heap.size W w'):=Y λW h=>XN c ae _ W (ah W h) λe he=>⟨(ay e he).1,(ay e he).2.1⟩
 have dN:R (∀rows,wB c ae=.ok rows->∀W,iR g w W->iW iN 10 #[mI #[V X c.fmt,V mQ c.mag,V X c.oL,V X c.pq,V X c.dep,V X c.oo],G a1 zF wJ] W (SV c rows W)):=Y λrows dO W h=>SY c ae _ W rows dO (ah W h) ay (af W h).1
 have bU:=Y (vS (w:=w) c (t:=rG));have bV:R (∀W,w.alloc (mM #[V X c.fmt,V mQ c.mag,V X c.oL,V X c.pq,V X c.dep,V X c.oo] rG)=W->W.heap.size=g+1):=Y λW h=>by subst h;simp[hg]
 have dY:s.size<=9223372036854775807:=by unfold jd at bR;omega
 unfold nU.v nU.cs;rw[hg]at bU|-;go_in;go_upto_region 1 with fail;have⟨bW,c0,c1,c2,c3,c4,c5⟩:=bU.out _ rfl;have bX:=bV.out _ rfl;generalize w.alloc _=w1 at*;have aU:=Y bW;have aP:R (∀W,iR (g+1) w1 W->W.cell? (Z g 0 U)=O (V X c.fmt)/\W.cell? (Z g 1 U)=O (V mQ c.mag)/\W.cell? (Z g 2 U)=O (V X c.oL)/\W.cell? (Z g 3 U)=O (V X c.pq)/\W.cell? (Z g 4 U)=O (V X c.dep)/\W.cell? (Z g 5 U)=O (V X c.oo)):=Y λW h=>
  have q:∀i,W.cell? (Z g i U)=w1.cell? (Z g i U):=λi=>h.cell (p:=(Z g i U)) (jV g)
  ⟨(q 0).trans c0,(q 1).trans c1,(q 2).trans c2,(q 3).trans c3,(q 4).trans c4,(q 5).trans c5⟩
 have az:=Y bX;have HF:R (∀W,iR (g+1) w1 W->iR g w W):=Y λW h=>aU.trans (h.mono I)
 go_wp2_with fail;refine pG (dM _ aU) λw2 bY=> ?_
 have K9:R (iR (g+1) w1 w2):=Y (az.out▸bY);have⟨c0,c1,c2,c3,c4,c5⟩:=aP.out _ K9.out;have C3X:R (∀W,iR (g+1) w1 W->∀bD,iR W.heap.size W bD->iR (g+1) w1 bD):=Y λW h bD dP=>h.trans (dP.mono (by have:=h.size;have:=az.out;omega))
 have⟨RT,aV⟩:=nE (Fj c ae);have bZ:=Y aV;rw[aV]at CR;cases RT with
 |false=>
  exact V9
 |true=>
 have⟨cz,E,rows,aQ⟩:=XO bZ.out;have E:=Y E;have aj:=Y aQ;have aA:=Y (Ej cz);by_cases dQ:300<s.size
 .have dR:As ((s.size:Int)>300)=u:=nk
  exact V9
 have dR:As ((s.size:Int)>300)=M:=nk;have J:R (s.size<=300):=Y I;go_wp2_with fail;refine pG (CR _ (HF _ K9)) λw3 hb3=> ?_
 have La:=Y (C3X _ K9 _ hb3);have⟨c0,c1,c2,c3,c4,c5⟩:=aP.out _ La.out;go_wp2_with fail;refine(dN _ aj _ (HF _ La)).mono ?_;rintro e w5 ⟨cK,ao,sb,r,bn,bi,L,rfl,hL,dS,hl,bE⟩;have aW:=Y (C3X _ La _ cK);have aa:R (g+1<=ao/\ao<=sb/\ao<=w5.heap.size):=Y (by have:=La.size;have:=az.out;omega);have aB:R (∀W,iR ao w5 W->pY r bn bi c L W/\qB W/\BC W):=Y λW h=>⟨bE W h,af W (HF W (aW.trans (h.mono aa.1)))⟩
 have cZ:=Y hL;have bF:R (∀q,q∈rows->pg q.ty=u/\(c.fmt=1->mW.oI p0 q.ty.sub=u)):=Y λq df=>by
  rw[<-cZ.out]at df;obtain⟨x,dU,rfl⟩:=List.mem_map.1 df;have h:=(aB w5 (iT _ _)).1.may x dU;exact⟨h.1,λax=>by have:=h.2.1 ax;simp only[je]at this;exact this.1⟩
 have dh:=Y dS;have dV:=Y (a4p w5);have hsz:=Tx.size;have bG:=Tx.one;have bH:=Tx;have eB:=(zero_of_info (P:=iN) yZ).1;have dw:(kA (jC 72 0)).size=(kA JL).size:=by
  have ax:=(zero_of_info (P:=iN) yZ).2;rw[hsz]at ax;rw[Bt,List.length_replicate];exact(kU ax).symm
 generalize kA JL=KA at*;generalize kA (jC 72 0)=bP at*;have aD:=Y (iU hsz (iU bG dw));have bI:=Y bH;go_wp2_with fail;refine pG dV λaF dx=> ?_
 obtain⟨gk,aG⟩:=o7 aF;have aH:R (mY (aF.alloc (mM bP zV)) gk bP zV):=aG▸mY.new aF bP _;have ak:=Y dx;go_upto_region 9 with(refine wpList_store_row rfl zV (.tmp 8) (.tmp 36) rfl gk KA rfl rfl _ bP aH aD.1 aD.2.2 aD.2.1 ?_)
 have aX:=aH.setRow KA;have hb3:iR w5.heap.size w5 ((aF.alloc (mM bP zV)).setRow gk KA):=Below.setRow (ak.alloc ak.size _) (aG▸ak.size) KA;have dz:R (w5.heap.size<=gk):=Y (aG▸ak.size);generalize (aF.alloc (mM bP zV)).setRow gk KA=aY at*;have bJ:=Y aX;have aI:=Y hb3;clear aX hb3;have bK:R (AP aY (λb=>ao<=b/\b≠gk) r sb [] 0 0):=Y (((dh.f aa.2.1).mono λb hb ai=>⟨ai,by have:=dz.out;omega⟩).kp (rF.of (F:=λ_=>False) aI) λ_ _ _ q=>q);have dA:R (iR ao w5 aY):=Y (aI.mono aa.2.2);have ag:R (∀W,iR ao w5 W->iR (g+1) w1 W):=Y λW h=>aW.trans (h.mono aa.1)
 have dB:R (qQ c [] ae=.ok rows):=Y (XP aj);have aZ:R (∀ t:An,t.size<=s.size->∀W,iR ao w5 W->iW iN 12 #[mI KA,mI #[V X c.fmt,V mQ c.mag,V X c.oL,V X c.pq,V X c.dep,V X c.oo],G a1 zF wJ,H t] W (a1X (kY c rows (s.size+1) t) W)):=Y λt ht W h=>by
  have h0:=J.out;rw[wD E.out (s.size+1) (t.size+1) t I I I];exact QK KA bI c ae rows _ t W (ah W (HF W (ag W h))) (by have:=aA.1;omega) (λe he=>by have:=(aA.2 e he).2;omega) E aS dB bF I
 go_wp2;go_loopw [9] (λiv bL=>∃(i:Nat) (buf:List AC) (nd:Int),iv=V X i/\i<=s.size/\R (ByI c rows s i buf nd)/\R (AP bL (λb=>ao<=b/\b≠gk) r sb buf nd 0)/\R (iR ao w5 bL/\mY bL gk KA zV)) (λiv _=>s.size -(jF iv).toNat);case atStart=>exact⟨0,[],0,rfl,jB _,Y (ByI.start c rows s),bK,Y ⟨dA.out,bJ.out⟩⟩
 case round=>
  obtain⟨i,buf,nd,rfl,hi,bg,bq,C⟩:=hrel;by_cases ci:i<s.size
  .have bu:=Y ci
   have bz:R ((s.extract 0 (i+1)).size<=s.size/\(s.extract i (i+1)).size<=1):=Y ⟨by rw[iV];omega,by rw[iV];omega⟩;have⟨aE,dD⟩:=nE (kY c rows (s.size+1) (s.extract 0 (i+1)));have aR:=Y dD;have au:R (ao<=wr.heap.size):=Y (by have:=C.1.size;have:=aa.out;omega);have av:R (∀W,iR wr.heap.size wr W->iR ao w5 W):=Y λW h=>C.1.trans (h.mono au)
   clear dD hi;go_upto_region 12 with fail
   refine a7A (k:=g) (gk:=gk) (i:=i) (KA:=KA) (c:=c) (a1:=a1) (zF:=zF) (wJ:=wJ) (s:=s) (aE:=aE) (Bs:=λW=>iR wr.heap.size wr W) (ht8:=by rfl) (ht3:=by rfl) (ht1:=by rfl) (ht2:=by rfl) (Gy:=by rfl) (hlt:=⟨bu.out,by have:=J.out;omega⟩) (hbk:=λW h=>a7 h C.2 C.2.lt) (hka:=aD.1) (hbc:=λW h=>aP.out W (ag W (av W h)))
    (hcs:=λW h=>((aZ _ bz.1 W (av W h)).mono λe w' hp=> ?_)) (hsz:=by rfl) (hI0:=λvs=>⟨nN wr,λh=>(by cases h),λh=>(by cases h)⟩) ?_
   .obtain⟨hb,o,n,dE,t,al,he⟩:=hp
    rw[aR.out]at he;exact⟨⟨_,he,⟨o,n,dE,t,al,rfl⟩⟩,h.trans (hb.mono h.size)⟩
   intro vs dF dG;have A:=Y dG.bs;clear dG;generalize vs 7=v7;generalize vs 8=v8;generalize vs 9=v9;generalize vs 10=v10;generalize vs 11=v11;generalize vs 13=v13;generalize vs 14=dZ;generalize vs 15=ed;simp only[vG,iX,jg,jf];have bA:=bq.kp (rF.of (F:=λ_=>False) A) λ_ _ _ q=>q
   have bB:R (buf.length<=300):=Y (by
    have⟨p,q,_,_,_,e,_⟩:=bg.ex;have ax:buf.length=(s.extract p i).size:=by rw[e];exact jR
    rw[ax,iV];have:=J.out;omega)
   have aJ:=Lv (λb=>ao<=b/\b≠gk) sb r bn bi c L buf nd 0 (s.extract i (i+1)) dF E aS bA (by have:=bB.out;have:=bz.2;omega) λW dW=>aB.out W ((av _ A).trans (dW.below (λd hd ai=>by have:=ai.1;omega) (by have:=A.size;have:=au.out;omega)))
   rw[cZ.out]at aJ;have aJ:=Y aJ;clear bA bB bq;go_wp2_with fail;refine aJ.mono ?_;rintro e aK ⟨mb,lv,Lm,rfl,f1,f2,f3,f4,dX⟩;have⟨dH,dI⟩:=bg.step E (by have:=J.out;omega) bu mb;rw[aR.out]at dH;generalize (rX c rows mb buf nd 0 (s.extract i (i+1))).2.1=aL at*;generalize (rX c rows mb buf nd 0 (s.extract i (i+1))).2.2.1=bC at*;generalize (rX c rows mb buf nd 0 (s.extract i (i+1))).2.2.2=ek at*;subst dH;have N:R (iR ao w5 aK):=Y ((av _ A).trans (f4.below (λd hd ai=>by have:=ai.1;omega) (by have:=A.size;have:=au.out;omega)));have aM:R (mY aK gk KA zV):=Y (f4.blk (a7 A C.2 C.2.lt) λai=>ai.2 rfl);have bM:R (AP aK (λb=>ao<=b/\b≠gk) r sb aL bC (aE:Int)):=Y (f3.mono λb _ hb=>hb.elim id λh=>⟨by have:=A.size;have:=au.out;omega,by have:=C.2.lt;have:=A.size;omega⟩);have dJ:=Y dI;have t1:((aE:Int) !=(aE:Int))=M:=ny;clear f1 f2 f3 f4 dX dI aJ;by_cases aN:aE=0
   .subst aN
    have bN:=Y (dJ rfl);go_wp2;go_roundw;case rel=>exact⟨i+1,aL,bC,by go_num,I,bN,bM,Y ⟨N.out,aM.out⟩⟩
    case measure=>simp[jF];omega
   .have eD:((aE:Int) !=0)=u:=yE
    have dK:=Y (Qr E (S:=s) (by have:=J.out;omega) (k:=i+1) I (by rw[aR.out];exact aN));have⟨c0,c1,c2,c3,c4,c5⟩:=aP.out _ (ag _ N);clear aN;go_wp2_with (refine wpList_load_row rfl zV (.tmp 8) rfl gk rfl _ KA (0,0) _ aM lF rfl aD.1 ?_);refine(aZ s (iP _) _ N).mono ?_;rintro e eu ⟨hb,o,n,dE,t,al,rfl⟩;rw[dK.out,aR.out];have bO:=Y (HF _ (ag _ (N.trans (hb.mono (by have:=N.size;have:=aa.out;omega)))));clear hb c0 c1 c2 c3 c4 c5;go_wp2;go_returns;exact⟨rfl,bO.out⟩
  .obtain rfl:i=s.size:=I
   have bO:=Y (HF _ (ag _ C.1));go_wp2;go_returns;exact⟨rfl,bO.out⟩
end
end Go.Proofs.YtamfcjmhnndbdaaGreatDoor


