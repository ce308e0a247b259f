/- Part 16 of the proof. -/
import Derived.Test.YtamfcjmhnndbdaaGreatDoorZu00
import Derived.Test.YtamfcjmhnndbdaaGreatDoorZu09
import Derived.Test.YtamfcjmhnndbdaaGreatDoorZu06
import Derived.Test.YtamfcjmhnndbdaaGreatDoorZu07
import Derived.Test.YtamfcjmhnndbdaaGreatDoorZu11
import Derived.Test.YtamfcjmhnndbdaaGreatDoorZu12
import Derived.Test.YtamfcjmhnndbdaaGreatDoorZu14
import Derived.Test.YtamfcjmhnndbdaaGreatDoorZu15
import Derived.Lib.AppendStr
import Derived.Deep.AppendLies
open Go.Value renaming agg→nC,bool→nA,int→ng,pointer→nz,slice→nk,string→ny,tuple→nD,slice→kM
open Go.Obj renaming cells→nG
open Go.IntKind renaming i64→nH,u32→nJ,u64→nI
open Go.Ending renaming returned→nE
open Go.Lib renaming hid→jH
open Go.Proofs.Tryz renaming prog→jI
open Go renaming World→jJ,Value→jP,Calls→jV,bodyPost_ret→j4,maxLen→j5,TypeId→ko,undef→kH,results→kK,Oper→lX,Addr→l5,Program→mK
open List renaming setIfInBounds_toArray→jK,getElem?_cons_succ→jM,getElem?_cons_zero→jN,getElem?_toArray→jO,set_cons_zero→jQ,set_cons_succ→jR,getElem?_eq_getElem→jX,length_append→jY,take_succ_cons→ky,take_zero→kQ,mem_of_getElem?→kT,getElem?_eq_some_iff→ll,append_assoc→lD,mem_cons→mD,map_cons→mH
open Nat renaming le_refl→jL,le_trans→kg,lt_of_lt_of_le→kG,zero_le→kI,le_succ→kX,lt_of_le_of_lt→mF
open Go.RowKit renaming Below→jS,Hid→jW,intOf→kW
open Go.RowKit.Below renaming refl→jT,heap_setCell→j6
open And renaming intro→jU
open UInt8 renaming ofNat→jZ
open Bool renaming and_eq_true→j3
open Go.World renaming setCell→kC
open Go.Act renaming put→kE
open Array renaming length_toList→kV
open Go.Code renaming region→lg
open Go.Instr renaming lookup→lV
open Option.some renaming inj→ma
open Go.Sem renaming run→mi
namespace Go.Proofs.YtamfcjmhnndbdaaGreatDoor
set_option linter.unusedVariables false
set_option linter.unusedSimpArgs false
set_option maxRecDepth 100000
set_option maxHeartbeats 8000000
variable {a0:Act}{P:mK}{ops:Array lX}
section
open Go.RowKit Go.Maps
def uP(c:oK)(rows:List Row)(id:Nat)(nm tx:ByteArray):Nat×Option Row:=
 if(rows.find? λy=>decide (y.name=nm)).isSome=true\/qX nm.data.toList=false then(11,none)
 else if(rows.find? λy=>decide (y.id=id)).isSome=true then(1,none)
 else match xu tx.data.toList with
  |none=>(3,none)
  |some t=>if c.fmt=1/\(nL.o7 p0 t.sub&&pX t)=false then(12,none)else(0,some ⟨id,nm,tx,t⟩)
structure a6n(r bn bi:Nat)(c:oK)(L:List oV)(R:Nat×Option Row)(w w':jJ):Prop where
 kp:sD (λd=>d=bn\/d=bi) w w'
 rg:∀row,R.2=some row->∃x:oV,x.r=row/\qp r bn bi c (x::L) w'
theorem Qz(L:List oV)(nm:ByteArray):((L.map λx=>x.r).find? λy=>decide (y.name=nm)).isSome=(L.find? λx=>decide (x.r.name=nm)).isSome:=by
 rw[List.find?_map,Option.isSome_map];rfl
theorem YH(L:List oV)(id:Nat):((L.map λx=>x.r).find? λy=>decide (y.id=id)).isSome=(L.find? λx=>decide ((x.r.id:Int)=(id:Int))).isSome:=by
 rw[List.find?_map,Option.isSome_map];have:((λr:Row=>decide (r.id=id))∘λx:oV=>x.r)=λx:oV=>decide ((x.r.id:Int)=(id:Int)):=funext λx=>decide_eq_decide.2 (by show x.r.id=id<->(x.r.id:Int)=(id:Int);omega)
 rw[this]
theorem JH{L:List oV}{p:oV->Bool}(h:(L.find? p).isSome=false):∀y,y∈L->p y=false:=by
 intro y A;rw[Option.isSome_eq_false_iff,Option.isNone_iff_eq_none]at h;have:=List.find?_eq_none.1 h y A;simpa using this
theorem YI{g r bn bi kt:Nat}{c:oK}{L:List oV}{x:oV}{w0 W:jJ}(h:RaB g r bn bi c L x.r.id x.r.name x.r.text w0 W)(C:nO W kt #[ng nH x.r.ty.lab.kind,ng nH x.r.ty.lab.size,nk x.ou x.r.ty.sub.length x.cu,ng nH x.r.ty.lab.tail] Eg)(hs:oL W (nk x.ou x.r.ty.sub.length x.cu) x.r.ty.sub)(Q:bn≠bi/\r≠bn/\r≠bi)(hk:g<kt)(E:∀y,y∈L->y.r.name≠x.r.name)(I:∀y,y∈L->y.r.id≠x.r.id)(J:x.r.name.size<=j5)(N:x.r.id<18446744073709551616)(O:L.length<1000):IY g r bn bi kt c L x w0 false false W:=by
 have l:=h.lt;refine⟨h.rg.rg,h.rg.nm,h.rg.id,λy A=> ?_,h.en,C,sD.of (l.1.symm▸h.qa),⟨E,I,J,N,O⟩,nK⟩;rcases mD.1 A with rfl|A
 .exact hs
 .exact h.rg.sub y A
theorem a4l{g r bn bi kt:Nat}{c:oK}{L:List oV}{x:oV}{w0 W:jJ}(h:IY g r bn bi kt c L x w0 true true W)(A:∀y,y∈x::L->pX y.r.ty=true/\(c.fmt=1->(nL.o7 p0 y.r.ty.sub&&pX y.r.ty)=true)/\y.r.name.size<=12):qp r bn bi c (x::L) W:=
 ⟨h.rg,h.nm,h.id,h.sub,A⟩
theorem YJ{l:List UInt8}{t:nL TL}(h:xu l=some t):pX t=true:=by
 unfold xu at h;split at h
 .split at h
  .rename_i A;cases h;exact A
  .cases h
 .cases h
theorem SK{p:Prop}(h:p:=by
 go_wp2_with fail;try go_returns
 exact⟨by rw[HE.out];rfl,sD.of (hg.symm▸HF.1.qa),by rw[HE.out];exact λ_ h=>by cases h⟩):p:=h
theorem YK{p:Prop}(h:p:=by
 intro vs8 W8 h8;have H8:=jH h8;clear h8;simp only[jK,jQ,jR];go_upto_region 13 with fail;refine Yr (g:=g) (r:=r) (bn:=bn) (bi:=bi) (kt:=kt) (c:=c) (L:=L) (x:=⟨⟨id,nm,tx,.node a sub⟩,o,cc⟩) (w0:=w) (ht0:=by rfl) (ht3:=by rfl) (JB:=by rfl) (hsz:=by rfl) (hI0:=λ_=>H8.below (oz _)) ?_;intro vs9 W9 h9;have H9:=jH h9;clear h9;simp only[jK,jQ,jR];go_wp2_with fail;try go_returns
 exact⟨by rw[HE.out];rfl,H9.kp,by rw[HE.out];exact λrow h=>by cases h;exact⟨⟨⟨id,nm,tx,.node a sub⟩,o,cc⟩,rfl,a4l H9 YL.out⟩⟩):p:=h
theorem a1I(r bn bi:Nat)(c:oK)(L:List oV)(id:Nat)(nm tx:ByteArray)(w:jJ)(h:qp r bn bi c L w)(aG:bn≠bi/\r≠bn/\r≠bi)(aa:nm.size<=j5)(aH:tx.size<=j5)(hid:id<18446744073709551616)(hL:L.length<1000)(aU:qo w):
  jV jI 87 #[nz (some ⟨r,0,none⟩),nC #[ng nI id,ny nm,ny tx]] w λe w'=>e=nE (ng nH (uP c (L.map λx=>x.r) id nm tx).1)/\a6n r bn bi c L (uP c (L.map λx=>x.r) id nm tx) w w':=by
 obtain⟨g,hg⟩:=nT w.heap.size;have bA:=h.lt3;have aI:jW (∀W,w.alloc (nG #[ng nI id,ny nm,ny tx] U1)=W->RaB g r bn bi c L id nm tx w W/\W.heap.size=g+1):=jH λW U=>by
  subst U;have a:=(jT w.heap.size w).alloc (jL _) (nG #[ng nI id,ny nm,ny tx] U1);exact⟨⟨h.below a,hg▸nO.new w _ _,hg▸a,hg,nK⟩,by simp[hg]⟩
 have I:jW (∀W,qp r bn bi c L W->_):=jH λW U=>U.look nm aa
 have J:jW (∀W,qp r bn bi c L W->_):=jH λW U=>U.a2t id hid
 have aV:=jH h;have aJ:=jH (λ(W:jJ) (hb:jS g w W)=>aU.below hb (hg▸aU.lt));have N:=jH (jU aG (jU aa (jU aH (jU hid hL))));obtain⟨bB,aK,_⟩:=yt L λx=>decide (x.r.name=nm)
 obtain⟨bC,aL,_⟩:=yt L λx=>decide ((x.r.id:Int)=(id:Int))
 rw[aK]at I;rw[aL]at J;unfold RC.cs at I J;obtain⟨b1,ae⟩:=nT ((L.find? λx=>decide (x.r.name=nm)).isSome);obtain⟨b4,af⟩:=nT ((L.find? λx=>decide ((x.r.id:Int)=(id:Int))).isSome);obtain⟨C,au⟩:=nT (uP c (L.map λx=>x.r) id nm tx)
 have O:jW (C=if b1=true\/qX nm.data.toList=false then(11,none)else if b4=true then(1,none)else match xu tx.data.toList with
  |none=>(3,none)
  |some t=>if c.fmt=1/\(nL.o7 p0 t.sub&&pX t)=false then(12,none)else(0,some ⟨id,nm,tx,t⟩)):=jH (by rw[<-au];unfold uP;rw[Qz,YH,ae,af])
 have aM:jW (b1=false->∀y,y∈L->y.r.name≠nm):=jH λe y V=>by have:=JH (ae.trans e) y V;simpa using this
 have aN:jW (b4=false->∀y,y∈L->y.r.id≠id):=jH λe y V=>by have:=JH (af.trans e) y V;simp at this;omega
 rw[ae]at I;rw[af]at J;rw[au];have aW:=jH (λW=>Kl nm W aa);generalize aO:qX nm.data.toList=bm at*;have aZ:=jH aO;clear h aG aa aH hid hL aU aK aL ae af au bA aO;go_in;go_upto_region 1 with fail;obtain⟨hI,bg⟩:=aI.out _ rfl;generalize w.alloc _=w1 at*;have av:=jH (jU hI bg);clear aI hI bg;refine a1C (g:=g) (r:=r) (bn:=bn) (bi:=bi) (c:=c) (L:=L) (Iy:=id) (nm:=nm) (tx:=tx) (w0:=w) (k:=g+1) (b:=b1) (x:=bB) (ht0:=by rfl) (ht3:=by rfl) (hl:=I.out) (h0:=aV.out) (hsz:=by rfl) (hI0:=λ_=>⟨av.1.below (oz w1),by simpa using av.2,(λh=>by cases h),nK⟩) ?_;intro vs bD hF;have HF:=jH (jU hF.b (show bD.heap.size=g+2 by simpa using hF.sz));clear hF av I;simp only[jK,jQ,jR];cases b1 with
 |true=>
  have HE:jW (C=(11,none)):=jH (by rw[O.out,if_pos (.inl rfl)]);exact SK
 |false=>
  cases bm with
  |false=>
   have HE:jW (C=(11,none)):=jH (by rw[O.out,if_pos (.inr rfl)]);have c1:=HF.1.en.c1;go_wp2_with fail;refine(aW _).mono ?_;rintro e w3 ⟨rfl,rfl⟩;exact SK
  |true=>
   have c1:=HF.1.en.c1;go_wp2_with fail;refine(aW _).mono ?_;rintro e w3 ⟨rfl,hw3⟩;subst hw3;clear aW c1;go_upto_region 4 with fail;refine a1D (g:=g) (r:=r) (bn:=bn) (bi:=bi) (c:=c) (L:=L) (Iy:=id) (nm:=nm) (tx:=tx) (w0:=w) (k:=g+2) (b:=b4) (x:=bC) (ht0:=by rfl) (ht3:=by rfl) (hl:=J.out) (h0:=aV.out) (hsz:=by rfl) (hI0:=λ_=>⟨HF.1.below (oz w3),by simpa using HF.2,(λh=>by cases h),nK⟩) ?_;intro vs aX ax;have Q:=jH (jU ax.b (show aX.heap.size=g+3 by simpa using ax.sz));clear ax HF J;simp only[jK,jQ,jR];cases b4 with
   |true=>
    have HE:jW (C=(1,none)):=jH (by rw[O.out,if_neg nR,if_pos rfl]);go_wp2_with fail;try go_returns
    exact⟨by rw[HE.out];rfl,sD.of (hg.symm▸Q.1.qa),by rw[HE.out];exact λ_ h=>by cases h⟩
   |false=>
    have ag:jW (C=match xu tx.data.toList with
     |none=>(3,none)
     |some t=>if c.fmt=1/\(nL.o7 p0 t.sub&&pX t)=false then(12,none)else(0,some ⟨id,nm,tx,t⟩)):=jH (by rw[O.out,if_neg nR,if_neg nR])
    clear O;have c2:=Q.1.en.c2;have aY:=jH (YG tx aX N.2.2.1 (aJ aX Q.1.qa));go_wp2_with fail;refine aY.mono ?_;unfold Le;rintro e w5 ⟨a,o,n,cc,er,sub,rfl,ah,bM,E,A⟩;obtain⟨kt,ay⟩:=nT w5.heap.size;obtain⟨_,_,aP,_,_⟩:=E.slice;obtain⟨bE,bF,rc⟩:o=o/\n=sub.length/\cc=cc:=⟨rfl,by injection aP,rfl⟩;subst bF;clear aP bE rc;have aF:jW (∀W,w5.alloc (nG #[ng nH a.kind,ng nH a.size,nk o sub.length cc,ng nH a.tail] Eg)=W->RaB g r bn bi c L id nm tx w W/\nO W kt #[ng nH a.kind,ng nH a.size,nk o sub.length cc,ng nH a.tail] Eg/\oL W (nk o sub.length cc) sub/\g<kt):=jH λW U=>by
     subst U;have al:=(jT w5.heap.size w5).alloc (jL _) (nG #[ng nH a.kind,ng nH a.size,nk o sub.length cc,ng nH a.tail] Eg);have:=ah.size;have:=Q.2;exact⟨(Q.1.below ah).below al,ay▸nO.new w5 _ _,Shape.nX.below E al,nK⟩
    rcases A with⟨A,rfl⟩|⟨A,rfl,rfl,rfl⟩
    .have ai:=jH A
     clear ah E A aY c2;go_upto_region 10 with fail;obtain⟨hB,aj,az,aA⟩:=aF.out _ rfl;generalize w5.alloc _=Y at*;have aB:=jH (jU hB (jU aj (jU az aA)));have aQ:jW (IY g r bn bi kt c L ⟨⟨id,nm,tx,.node a sub⟩,o,cc⟩ w false false Y):=jH (YI (x:=⟨⟨id,nm,tx,.node a sub⟩,o,cc⟩) hB aj az N.1 aA (by first|exact aM rfl|exact aM trivial) (by first|exact aN rfl|exact aN trivial) N.2.1 N.2.2.2.1 N.2.2.2.2);have c0:=hB.rg.rg.c0;obtain⟨bG,bH,y2,bI⟩:=aj.a4;clear hB aj az aA aF ay;have YL:∀ b:Bool,(c.fmt=1->b=true)->(nL.o7 p0 sub&&pX (.node a sub))=b->∀y,y∈(⟨⟨id,nm,tx,.node a sub⟩,o,cc⟩:oV)::L->pX y.r.ty=true/\(c.fmt=1->(nL.o7 p0 y.r.ty.sub&&pX y.r.ty)=true)/\y.r.name.size<=12:=λb hb bq y V=>by
      rcases mD.1 V with rfl|V
      .refine⟨YJ ai.out,λbJ=>(bq.trans (hb bJ):(nL.o7 p0 sub&&pX (.node a sub))=true),?_⟩
       have:=aZ.out;unfold qX at this;simp only[j3,decide_eq_true_eq]at this;have bN:=this.1.2;have e:nm.data.toList.length=nm.size:=kV;show nm.size<=12;omega
      .exact aV.may y V
     have ak:=jH YL;clear YL;by_cases Z:c.fmt=1
     .have bK:(c.fmt==1)=true:=by simp[Z]
      have bL:=jH Z;have bu:=jH (D8 (.node a sub) Y (nk o sub.length cc) aB.2.2.1 (aJ Y aB.1.qa));obtain⟨bz,aC⟩:=nT ((nL.o7 p0 sub&&pX (.node a sub)));have aD:=jH aC;have aR:jW (jV jI 122 #[nC #[ng nH a.kind,ng nH a.size,nk o sub.length cc,ng nH a.tail]] Y λe w'=>e=nE (nA bz)/\jS Y.heap.size Y w'):=jH (aC▸bu.out);clear Z bu aC;go_wp2_with fail;refine aR.mono ?_;rintro e bO ⟨rfl,aS⟩;have aT:=jH aS;clear aS aR c0 bG bH y2 bI;cases bz with
      |false=>
       have HE:jW (C=(12,none)):=jH (by rw[ag.out,ai.out];exact if_pos ⟨bL.out,aD.out⟩);go_wp2_with fail;try go_returns
       exact⟨by rw[HE.out];rfl,sD.of (hg.symm▸(aB.1.below aT).qa),by rw[HE.out];exact λ_ h=>by cases h⟩
      |true=>
       have HE:jW (C=(0,some ⟨id,nm,tx,.node a sub⟩)):=jH (by rw[ag.out,ai.out];exact if_neg λh=>Bool.false_ne_true (h.2.symm.trans aD));have YL:=jH (ak true (λ_=>rfl) aD);go_upto_region 12 with fail;refine NS (g:=g) (r:=r) (bn:=bn) (bi:=bi) (kt:=kt) (c:=c) (L:=L) (x:=⟨⟨id,nm,tx,.node a sub⟩,o,cc⟩) (w0:=w) (ht0:=by rfl) (ht3:=by rfl) (JB:=by rfl) (hsz:=by rfl) (hI0:=λ_=>(aQ.below aT).below (oz _)) ?_;exact YK
     .have bK:(c.fmt==1)=false:=by simp[Z]
      have HE:jW (C=(0,some ⟨id,nm,tx,.node a sub⟩)):=jH (by rw[ag.out,ai.out];exact if_neg λh=>Z h.1);have YL:=jH (ak _ (λh=>absurd h Z) rfl);clear Z;go_upto_region 12 with fail;refine NS (g:=g) (r:=r) (bn:=bn) (bi:=bi) (kt:=kt) (c:=c) (L:=L) (x:=⟨⟨id,nm,tx,.node a sub⟩,o,cc⟩) (w0:=w) (ht0:=by rfl) (ht3:=by rfl) (JB:=by rfl) (hsz:=by rfl) (hI0:=λ_=>aQ.below (oz _)) ?_;exact YK
    .have HE:jW (C=(3,none)):=jH (by rw[ag.out,A])
     clear ah E A aY c2;go_upto_region 8 with fail;obtain⟨hB,_⟩:=aF.out _ rfl;generalize w5.alloc _=Y at*;have aB:=jH hB;clear hB aF ay;go_wp2_with fail;try go_returns
     exact⟨by rw[HE.out];rfl,sD.of (hg.symm▸aB.qa),by rw[HE.out];exact λ_ h=>by cases h⟩
structure xG where
 id:Nat
 nm:ByteArray
 tx:ByteArray
def IA(w:jJ)(v:jP)(A:List xG):Prop:=
 ∃oa cap,v=nk oa A.length cap/\A.length<=cap/\cap<=j5/\∀i e,A[i]? =some e->∃b off,oa=some ⟨b,off,none⟩/\b<w.heap.size/\w.cell? ⟨b,off+i*3,none⟩=some (ng nI e.id)/\w.cell? ⟨b,off+i*3+1,none⟩=some (ny e.nm)/\w.cell? ⟨b,off+i*3+2,none⟩=some (ny e.tx)
theorem IA.below{w w':jJ}{v:jP}{A:List xG}(h:IA w v A)(hb:jS w.heap.size w w'):IA w' v A:=by
 obtain⟨oa,cap,C,E,I,J⟩:=h;refine⟨oa,cap,C,E,I,λi e he=> ?_⟩;obtain⟨b,off,ho,hl,c0,c1,c2⟩:=J i e he;have q:∀o,w'.cell? ⟨b,o,none⟩=w.cell? ⟨b,o,none⟩:=λo=>World.cell?_of_block (w:=w) (a:=⟨b,o,none⟩) (hb.block b hl)
 exact⟨b,off,ho,kG hl hb.size,by rw[q];exact c0,by rw[q];exact c1,by rw[q];exact c2⟩
def rF(c:oK):List Row->List xG->Except Nat (List Row)
 |rows,[]=> .ok rows
 |rows,e::A=>match uP c rows e.id e.nm e.tx with
  |(er,none)=> .error er
  |(_,some row)=>rF c (row::rows) A
def vo(c:oK)(A:List xG):Except Nat (List Row):=if oM c=false then .error 1 else if 32<A.length then .error 4 else rF c [] A
theorem N7(c:oK)(rows:List Row)(id:Nat)(nm tx:ByteArray):(uP c rows id nm tx).2=none/\(uP c rows id nm tx).1≠0\/(uP c rows id nm tx).1=0/\∃row,(uP c rows id nm tx).2=some row:=by
 unfold uP;split;.exact .inl ⟨rfl,nN⟩
 .split
  .exact .inl ⟨rfl,nN⟩
  .split
   .exact .inl ⟨rfl,nN⟩
   .split
    .exact .inl ⟨rfl,nN⟩
    .exact .inr ⟨rfl,_,rfl⟩
def AB(c:oK)(A:List xG)(w:jJ)(e:Ending)(w':jJ):Prop:=
 jS w.heap.size w w'/\match vo c A with
 | .error er=>e=nE (nD #[nz none,ng nH er])/\er≠0
 | .ok rows=>∃r bn bi L,e=nE (nD #[nz (some ⟨r,0,none⟩),ng nH 0])/\qp r bn bi c L w'/\(L.map λx:oV=>x.r)=rows/\(bn≠bi/\r≠bn/\r≠bi)/\w.heap.size<=r/\w.heap.size<=bn/\w.heap.size<=bi
abbrev QA:ko:=159
structure SL(w0:jJ)(g r bn bi:Nat)(c:oK)(L:List oV)(W:jJ):Prop where
 rg:qp r bn bi c L W
 qa:jS g w0 W
 lt:w0.heap.size=g/\g<bn/\g<bi/\g<r/\bn≠bi/\r≠bn/\r≠bi
theorem SL.below{w0:jJ}{g r bn bi:Nat}{c:oK}{L:List oV}{W A:jJ}(h:SL w0 g r bn bi c L W)(hb:jS W.heap.size W A):SL w0 g r bn bi c L A:=
 ⟨h.rg.below hb,h.qa.trans (hb.mono (by have:=h.lt;have:=h.qa.size;omega)),h.lt⟩
theorem SL.add{w0:jJ}{g r bn bi:Nat}{c:oK}{L C:List oV}{W A:jJ}(h:SL w0 g r bn bi c L W)(k:sD (λd=>d=bn\/d=bi) W A)(E:qp r bn bi c C A):SL w0 g r bn bi c C A:=
 ⟨E,h.qa.trans (k.below (λd hd I=>by have:=h.lt;omega) (by have:=h.lt;have:=h.qa.size;omega)),h.lt⟩
theorem SL.kp{w0:jJ}{g r bn bi:Nat}{c:oK}{L:List oV}{W A:jJ}(h:SL w0 g r bn bi c L W)(k:sD (λd=>d=bn\/d=bi) W A):jS g w0 A:=
 h.qa.trans (k.below (λd hd C=>by have:=h.lt;omega) (by have:=h.lt;have:=h.qa.size;omega))
def YM(c:oK)(bn bi:Nat)(pf gf:jP):Array jP:=#[ng nH c.fmt,ng nJ c.mag,ng nH c.pO,ng nH c.qj,ng nH c.dep,ng nH c.oZ,.map (some bn),.map (some bi),pf,gf]
def ptV(c:oK):jP:=.func (.func 83) #[nC #[ng nH c.dep,ng nH c.oZ]] #[]
def gtV(c:oK):jP:=.func (.func 84) #[nC #[ng nH c.dep,ng nH c.oZ]] #[]
structure YN(w0:jJ)(g k:Nat)(c:oK)(pf gf:jP)(W:jJ):Prop where
 cf:nO W g #[ng nH c.fmt,ng nJ c.mag,ng nH c.pO,ng nH c.qj,ng nH c.dep,ng nH c.oZ] tV
 cp:nO W k #[ng nH c.dep,ng nH c.oZ] QA
 rg:nO W (k+3) (YM c (k+1) (k+2) pf gf) RgT
 nm:qA NmK sJ W (k+1) 0 []
 id:qA IdK sJ W (k+2) 0 []
 qa:jS g w0 W
 lt:w0.heap.size=g/\g<k
theorem YN.of{w0:jJ}{g k:Nat}{c:oK}{W:jJ}(N:jS g w0 W)(C:nO W g #[ng nH c.fmt,ng nJ c.mag,ng nH c.pO,ng nH c.qj,ng nH c.dep,ng nH c.oZ] tV)(E:nO W k #[ng nH c.dep,ng nH c.oZ] QA)(A:W.heap.size=k+1)(hl:w0.heap.size=g/\g<k)(pf gf:jP):
  YN w0 g k c pf gf (((W.alloc (.map #[] 0)).alloc (.map #[] 0)).alloc (nG (YM c (k+1) (k+2) pf gf) RgT)):=by
 have O:=(jT W.heap.size W).alloc (jL _) (.map #[] 0);have a2:=O.alloc nR (.map #[] 0);have a3:=a2.alloc nQ (nG (YM c (k+1) (k+2) pf gf) RgT);have I:=qA.made NmK sJ W;have m2:=qA.made IdK sJ (W.alloc (.map #[] 0));have J:=nO.new ((W.alloc (.map #[] 0)).alloc (.map #[] 0)) (YM c (k+1) (k+2) pf gf) RgT;rw[A]at I;rw[World.size_alloc,A]at m2;rw[World.size_alloc,World.size_alloc,A]at J;exact⟨Below.blk a3 C C.lt,Below.blk a3 E E.lt,J,(I.below ((jT _ _).alloc (jL _) _)).below (((jT _ _).alloc (jL _) _)),m2.below ((jT _ _).alloc (jL _) _),N.trans (a3.mono nK),hl⟩
theorem YN.put{w0:jJ}{g k:Nat}{c:oK}{pf gf Lf gf2:jP}{W:jJ}(h:YN w0 g k c pf gf W):YN w0 g k c Lf gf2 ((W.setCell ⟨k+3,8,none⟩ Lf).setCell ⟨k+3,9,none⟩ gf2):=by
 have l:=h.lt;have A:∀d,d≠k+3->((W.setCell ⟨k+3,8,none⟩ Lf).setCell ⟨k+3,9,none⟩ gf2).heap[d]? =W.heap[d]? :=λd hd=>(j6 _ ⟨k+3,9,none⟩ _ d hd).trans (j6 _ ⟨k+3,8,none⟩ _ d hd)
 have q:∀{d:Nat}{cs:Array jP}{t:ko},nO W d cs t->d≠k+3->nO ((W.setCell ⟨k+3,8,none⟩ Lf).setCell ⟨k+3,9,none⟩ gf2) d cs t:=λhB hd=>by unfold nO;rw[A _ hd];exact hB
 refine⟨q h.cf nK,q h.cp nK,(h.rg.set 8 Lf).set 9 gf2,h.nm.block (A _ nK),h.id.block (A _ nK),?_,l⟩;exact(h.qa.setCell (p:=⟨k+3,8,none⟩) (by show g<=k+3;omega) _).setCell (p:=⟨k+3,9,none⟩) (by show g<=k+3;omega) _
theorem YN.i{w0:jJ}{g k:Nat}{c:oK}{W:jJ}(h:YN w0 g k c (GM c) (Jy c) W):SL w0 g (k+3) (k+1) (k+2) c [] W:=
 ⟨⟨h.rg,h.nm,h.id,(λy A=>by cases A),(λy A=>by cases A)⟩,h.qa,by have:=h.lt;omega⟩
theorem Ei{c:oK}{A:List xG}{w w':jJ}{er:Nat}(h:vo c A=.error er)(hb:jS w.heap.size w w')(hn:er≠0):AB c A w (nE (nD #[nz none,ng nH er])) w':=⟨hb,by rw[h];exact⟨rfl,hn⟩⟩
theorem a4m{c:oK}{A:List xG}{w w':jJ}{g r bn bi:Nat}{L:List oV}(h:vo c A=.ok (L.map λx=>x.r))(hI:SL w g r bn bi c L w'):AB c A w (nE (nD #[nz (some ⟨r,0,none⟩),ng nH 0])) w':=by
 have l:=hI.lt;exact⟨l.1.symm▸hI.qa,by rw[h];exact⟨r,bn,bi,L,rfl,hI.rg,rfl,nK,nK,nK,nK⟩⟩
theorem SN{p:Prop}(h:p:=by
 subst hW;exact⟨hg▸(jT w.heap.size w).alloc (jL _) _,hg▸nO.new w _ _,by simp[hg]⟩):p:=h
theorem a2C{p:Prop}(h:p:=by
 generalize hr0:kp+3=r at*;generalize hn0:kp+1=bn at*;generalize hi0:kp+2=bi at*;obtain⟨TOT,a4n⟩:=nT (rF c [] es);have a8T:=jH a4n;have HE2:jW (vo c es=TOT):=jH (HE.trans a4n);clear a4n HE hr0 hn0 hi0;go_loopw [45] (λkv wi=>∃k:Nat,kv=ng nH (k:Int)/\k<=n/\jW (∃L:List oV,SL w g r bn bi c L wi/\L.length=k/\rF c (L.map λx=>x.r) (es.drop k)=TOT)) (λkv _=>n -(kW kv).toNat);case atStart=>exact⟨0,rfl,kI _,jH ⟨[],Sr.out,rfl,a8T.out⟩⟩
 case round=>
  obtain⟨k,rfl,hk,HJ⟩:=hrel;obtain⟨L,hI,hLk,hnl⟩:=HJ.out;clear HJ;have HI:=jH hI;have HLK:=jH hLk;have HNL:=jH hnl;clear hI hLk hnl;by_cases hkn:k<n
  .have tk:decide (k<n)=true:=nQ
   have hn32:n<=32:=by have:=H32.out;omega
   obtain⟨e,he⟩:∃e,es[k]? =some e:=⟨_,jX (by rw[HN.out];exact hkn)⟩;obtain⟨b,off,rfl,hbl,q0,q1,q2⟩:=HC.2.2.1 k e he;have hq:∀o,wr.cell? ⟨b,o,none⟩=w.cell? ⟨b,o,none⟩:=λo=>World.cell?_of_block (w:=w) (a:=⟨b,o,none⟩) (HI.qa.block b nK)
   have z0:=(hq _).trans q0;have z1:=(hq _).trans q1;have z2:=(hq _).trans q2;have HES:=jH (HC.2.2.2 e (kT he));have HDR:jW (es.drop k=e::es.drop (k+1)):=jH (by
    obtain⟨h1,h2⟩:=ll.1 he;rw[List.drop_eq_getElem_cons h1,h2])
   have hfit:k<n:=hkn;clear hq q0 q1 q2 he hbl;have HAL:jW (∀W,wr.alloc (nG #[ng nI e.id,ny e.nm,ny e.tx] U1)=W->SL w g r bn bi c L W/\nO W wr.heap.size #[ng nI e.id,ny e.nm,ny e.tx] U1):=jH λW hW=>by
    subst hW;exact⟨HI.below ((jT _ _).alloc (jL _) _),nO.new wr _ _⟩
   go_upto_region 12 with fail;obtain⟨hI6,hB6⟩:=HAL.out _ rfl;generalize wr.alloc _=w6 at*;have HI6:=jH hI6;obtain⟨v0,v1,v2⟩:=hB6.a3;have CA:=jH (a1I r bn bi c L e.id e.nm e.tx w6 hI6.rg ⟨hI6.lt.2.2.2.2.1,hI6.lt.2.2.2.2.2⟩ HES.1 HES.2.1 HES.2.2 (by have:=HLK.out;have:=H32.out;omega) (HTT w6 hI6.qa));obtain⟨⟨er,ro⟩,hAE⟩:∃R,uP c (L.map λx=>x.r) e.id e.nm e.tx=R:=⟨_,rfl⟩;have hcase:=N7 c (L.map λx=>x.r) e.id e.nm e.tx;rw[hAE]at CA hcase;have HAE:=jH hAE;dsimp only at CA hcase;clear hI6 hB6 HAL z0 z1 z2 hAE;go_wp2_with fail;refine CA.mono ?_;rintro e7 w7 ⟨rfl,hok⟩;have IZ:=jH hok;clear hok CA v0 v1 v2;rcases hcase with⟨rfl,hne⟩|⟨rfl,row,rfl⟩
   .have te:((er:Int) !=0)=true:=nQ
    have HER:jW (vo c es=.error er):=jH (by rw[HE2.out,<-HNL.out,HDR.out,rF,HAE.out]);have HNE:=jH hne;clear hne;go_wp2_with fail;try go_returns
    rw[<-HP.out];exact Ei HER (hg.symm▸HI6.kp IZ.kp) HNE.out
   .have te:(((0:Nat):Int) !=0)=false:=nR
    go_wp2_with fail;go_roundw;case rel=>
     obtain⟨x,hx,hr⟩:=IZ.rg row rfl;refine⟨k+1,nR,nK,jH ⟨x::L,HI6.add IZ.kp hr,by simp[HLK.out],?_⟩⟩;have h9:=HNL.out;rw[HDR.out,rF,HAE.out]at h9;rw[mH,hx];exact h9
    case measure=>simp[kW];omega
  .have tk:decide (k<n)=false:=nQ
   have HEN:jW (vo c es=.ok (L.map λx=>x.r)):=jH (by
    have h9:=HNL.out;rw[List.drop_eq_nil_of_le (by rw[HN.out];omega),rF]at h9;rw[HE2.out,<-h9])
   clear hkn;go_wp2_with fail;try go_returns
   rw[<-HP.out];exact a4m HEN HI.out):p:=h
theorem a1J(c:oK)(es:List xG)(v:jP)(w:jJ)(aK:IA w v es)(ai:∀e,e∈es->e.nm.size<=j5/\e.tx.size<=j5/\e.id<18446744073709551616)(az:qo w):
  jV jI 52 #[c.v,v] w (AB c es w):=by
 have aN:=@run_makeMap jI;obtain⟨oa,cap,rfl,O,Q,J⟩:=aK;obtain⟨n,hn⟩:=nT es.length;obtain⟨g,hg⟩:=nT w.heap.size;have aj:jW (∀W,w.alloc (nG #[ng nH c.fmt,ng nJ c.mag,ng nH c.pO,ng nH c.qj,ng nH c.dep,ng nH c.oZ] tV)=W->jS g w W/\nO W g #[ng nH c.fmt,ng nJ c.mag,ng nH c.pO,ng nH c.qj,ng nH c.dep,ng nH c.oZ] tV/\W.heap.size=g+1):=jH λW hW=>by
  exact SN
 have aA:=jH (λW=>BH c W);have HTT:=jH (λ(W:jJ) (hb:jS g w W)=>az.below hb (hg▸az.lt));have HC:=jH (jU O (jU Q (jU J ai)));have Y:jW (vo c es=if oM c=false then .error 1 else if 32<n then .error 4 else rF c [] es):=jH (by unfold vo;rw[hn]);obtain⟨aL,aB⟩:=nT (AB c es w);have HP:=jH aB;have HN:=jH hn;rw[aB,hn];unfold oK.v oK.cs at aA⊢;generalize aO:oM c=rc at*;clear O Q J ai az aB hn;go_in;go_upto_region 1 with fail;obtain⟨ak,Z,au⟩:=aj.out _ rfl;generalize w.alloc _=w1 at*;have E:=jH (jU ak (jU Z au));obtain⟨c0,c1,c2,c3,c4,c5⟩:=Z.a6;clear aj ak Z au;go_wp2_with fail;refine(aA _).mono ?_;rintro e w2 ⟨rfl,U⟩;have C:jW (jS g w w2/\nO w2 g #[ng nH c.fmt,ng nJ c.mag,ng nH c.pO,ng nH c.qj,ng nH c.dep,ng nH c.oZ] tV/\g<w2.heap.size):=jH ⟨E.1.trans (U.mono (by have:=E.2.2;omega)),Below.blk U E.2.1 E.2.1.lt,by have:=E.2.2;have:=U.size;omega⟩;clear E U aA c0 c1 c2 c3 c4 c5;cases rc with
 |false=>
  have HE:=jH (Y.trans (if_pos rfl));go_wp2_with fail;try go_returns
  rw[<-HP.out];exact Ei HE (hg.symm▸C.1) nN
 |true=>
  by_cases N:32<n
  .have t0:decide ((n:Int)>32)=true:=nQ
   have HE:=jH (Y.trans ((if_neg nR).trans (if_pos N)));clear N;go_wp2_with fail;try go_returns
   rw[<-HP.out];exact Ei HE (hg.symm▸C.1) nN
  .have t0:decide ((n:Int)>32)=false:=nQ
   have HE:=jH (Y.trans ((if_neg nR).trans (if_neg N)));have H32:=jH N;have av:=C.2.1;obtain⟨c0,c1,c2,c3,c4,c5⟩:=av.a6;clear N av;obtain⟨kp,aa⟩:=nT w2.heap.size;have aD:jW (∀W,w2.alloc (nG #[ng nH c.dep,ng nH c.oZ] QA)=W->jS g w W/\nO W g #[ng nH c.fmt,ng nJ c.mag,ng nH c.pO,ng nH c.qj,ng nH c.dep,ng nH c.oZ] tV/\nO W kp #[ng nH c.dep,ng nH c.oZ] QA/\W.heap.size=kp+1/\g<kp):=jH λW hW=>by
    subst hW;have al:=(jT w2.heap.size w2).alloc (jL _) (nG #[ng nH c.dep,ng nH c.oZ] QA);have:=C.2.2;exact⟨C.1.trans (al.mono nK),Below.blk al C.2.1 C.2.1.lt,aa▸nO.new w2 _ _,by simp[aa],nK⟩
   go_upto_region 6 with fail;have aF:=aD.out _ rfl;generalize w2.alloc _=w3 at*;clear c0 c1 c2 c3 c4 c5 aD;have A:=jH aF;clear aF;obtain⟨c0,c1,c2,c3,c4,c5⟩:=A.2.1.a6;obtain⟨ae,af⟩:=A.2.2.1.a2;have ax:=A.2.2.2.1;obtain⟨z0,z1⟩:=((A.2.2.1.alloc (.map #[] 0)).alloc (.map #[] 0)).a2;have aG:jW (∀W,((w3.alloc (.map #[] 0)).alloc (.map #[] 0)).alloc (nG #[ng nH c.fmt,ng nJ c.mag,ng nH c.pO,ng nH c.qj,ng nH c.dep,ng nH c.oZ,.map (some (kp+1)),.map (some (kp+2)),.func (.func 83) #[nC #[ng nH c.dep,ng nH c.oZ]] #[],.func (.func 84) #[nC #[ng nH c.dep,ng nH c.oZ]] #[]] RgT)=W->YN w g kp c (ptV c) (gtV c) W):=jH λW hW=>by
    subst hW;exact YN.of A.1 A.2.1 A.2.2.1 ax ⟨hg,A.2.2.2.2⟩ _ _
   go_upto_region 7 with fail;rw[show kp+1+1+1=kp+3 from rfl,show kp+1+1=kp+2 from rfl];have I:=aG.out _ rfl;generalize ((w3.alloc _).alloc _).alloc _=w4 at*;have V:=jH I;have aC:=I.cf.cell 0;have ag:=I.rg.cell 8;have ah:=I.rg.cell 9;have aH:=I.rg.free 8;have aI:=I.rg.free 9;have ae:=I.cp.cell 0;have af:=I.cp.cell 1;simp only[YM,jO,jN,jM]at aC ag ah ae af;clear aG I z0 z1 c0 c1 c2 c3 c4 c5 ax A C aa;unfold ptV at ag;unfold gtV at ah;by_cases h1:c.fmt=1
   .have aM:(c.fmt==1)=true:=by simp[h1]
    have aJ:=jH h1;clear h1;have Sr:jW (∀W,(w4.setCell ⟨kp+3,8,none⟩ (.func (.func 85) #[nC #[ng nH c.dep,ng nH c.oZ]] #[])).setCell ⟨kp+3,9,none⟩ (.func (.func 86) #[nC #[ng nH c.dep,ng nH c.oZ]] #[])=W->SL w g (kp+3) (kp+1) (kp+2) c [] W):=jH λW hW=>by
     subst hW;have hp:=V.put (Lf:=.func (.func 85) #[nC #[ng nH c.dep,ng nH c.oZ]] #[]) (gf2:=.func (.func 86) #[nC #[ng nH c.dep,ng nH c.oZ]] #[]);refine YN.i ?_;unfold GM Jy;rw[if_pos aJ.out,if_pos aJ.out];exact hp
    go_upto_region 10 with fail;have ay:=Sr.out _ rfl;generalize (w4.setCell ⟨kp+3,8,none⟩ _).setCell ⟨kp+3,9,none⟩ _=w5 at*;have Sr:=jH ay;clear ay aC ag ah aH aI ae af V;exact a2C
   .have aM:(c.fmt==1)=false:=by simp[h1]
    have Sr:jW (SL w g (kp+3) (kp+1) (kp+2) c [] w4):=jH (YN.i (by unfold GM Jy;rw[if_neg h1,if_neg h1];exact V));clear h1 ag ah aH aI ae af V;go_upto_region 10 with fail;clear aC;exact a2C
def pR(T:ByteArray)(er:Int)(w:jJ)(e:Ending)(w':jJ):Prop:=e=nE (nD #[ny T,ng nH er])/\jS w.heap.size w w'
theorem YO{p:Prop}(h:p:=by
 subst hW;have a1:=(jT w.heap.size w).alloc (jL _) (nG #[ng nH dep,ng nH oZ] QA);have a2:=a1.alloc nR (nG #[ng nH k,ng nH z,nk ou n cu,ng nH tl] Eg);have a3:=a2.alloc nQ (nG #[ny tx,nA li,nk oi ni ci] IT);have k1:=nO.new w #[ng nH dep,ng nH oZ] QA;have k2:=nO.new (w.alloc (nG #[ng nH dep,ng nH oZ] QA)) #[ng nH k,ng nH z,nk ou n cu,ng nH tl] Eg;have k3:=nO.new ((w.alloc (nG #[ng nH dep,ng nH oZ] QA)).alloc (nG #[ng nH k,ng nH z,nk ou n cu,ng nH tl] Eg)) #[ny tx,nA li,nk oi ni ci] IT;rw[show(w.alloc (nG #[ng nH dep,ng nH oZ] QA)).heap.size=g+1 by simp[hg]]at k2;rw[show((w.alloc (nG #[ng nH dep,ng nH oZ] QA)).alloc (nG #[ng nH k,ng nH z,nk ou n cu,ng nH tl] Eg)).heap.size=g+2 by simp[hg]]at k3;rw[hg]at k1;exact⟨(k1.alloc _).alloc _,k2.alloc _,k3,a3,by simp[hg]⟩):p:=h
theorem N8(k z tl:Int)(ou:Option l5)(n cu:Nat)(tx:ByteArray)(li:Bool)(oi:Option l5)(ni ci:Nat)(dep oZ:Int)(T:ByteArray)(er:Int)(w:jJ)(Q:∀W,jS w.heap.size w W->jV jI 116 #[nC #[ng nH k,ng nH z,nk ou n cu,ng nH tl],nC #[ny tx,nA li,nk oi ni ci],ng nH dep,ng nH oZ] W (pR T er W)):
  jV jI 83 #[nC #[ng nH dep,ng nH oZ],nC #[ng nH k,ng nH z,nk ou n cu,ng nH tl],nC #[ny tx,nA li,nk oi ni ci]] w (pR T er w):=by
 obtain⟨g,hg⟩:=nT w.heap.size;have C:jW (∀W,((w.alloc (nG #[ng nH dep,ng nH oZ] QA)).alloc (nG #[ng nH k,ng nH z,nk ou n cu,ng nH tl] Eg)).alloc (nG #[ny tx,nA li,nk oi ni ci] IT)=W->nO W g #[ng nH dep,ng nH oZ] QA/\nO W (g+1) #[ng nH k,ng nH z,nk ou n cu,ng nH tl] Eg/\nO W (g+2) #[ny tx,nA li,nk oi ni ci] IT/\jS w.heap.size w W/\W.heap.size=g+3):=jH λW hW=>by
  exact YO
 have U:=jH Q;obtain⟨Z,O⟩:=nT (pR T er w);have aa:=jH O;rw[O];clear Q O;go_in;go_upto_region 1 with fail;obtain⟨E,I,hk2,A,J⟩:=C.out _ rfl;generalize ((w.alloc _).alloc _).alloc _=w1 at*;obtain⟨c0,c1⟩:=E.a2;obtain⟨t0,ae,af,t3⟩:=I.a4;obtain⟨ag,ah,ai⟩:=hk2.a3;have V:=jH (jU A J);have N:=jH (U _ A);clear C E I hk2 A J U;go_wp2_with fail;refine N.mono ?_;rintro e w2 ⟨rfl,hb⟩;have Y:=jH hb;clear hb N c0 c1 t0 ae af t3 ag ah ai;go_wp2_with fail;try go_returns
 rw[<-aa.out];exact⟨rfl,V.1.trans (Y.mono (by have:=V.2;omega))⟩
theorem I1(k z tl:Int)(ou:Option l5)(n cu:Nat)(tx:ByteArray)(li:Bool)(oi:Option l5)(ni ci:Nat)(dep oZ:Int)(T:ByteArray)(er:Int)(w:jJ)(Q:∀W,jS w.heap.size w W->jV jI 118 #[nC #[ng nH k,ng nH z,nk ou n cu,ng nH tl],nC #[ny tx,nA li,nk oi ni ci],ng nH oZ] W (pR T er W)):
  jV jI 85 #[nC #[ng nH dep,ng nH oZ],nC #[ng nH k,ng nH z,nk ou n cu,ng nH tl],nC #[ny tx,nA li,nk oi ni ci]] w (pR T er w):=by
 obtain⟨g,hg⟩:=nT w.heap.size;have C:jW (∀W,((w.alloc (nG #[ng nH dep,ng nH oZ] QA)).alloc (nG #[ng nH k,ng nH z,nk ou n cu,ng nH tl] Eg)).alloc (nG #[ny tx,nA li,nk oi ni ci] IT)=W->nO W g #[ng nH dep,ng nH oZ] QA/\nO W (g+1) #[ng nH k,ng nH z,nk ou n cu,ng nH tl] Eg/\nO W (g+2) #[ny tx,nA li,nk oi ni ci] IT/\jS w.heap.size w W/\W.heap.size=g+3):=jH λW hW=>by
  exact YO
 have U:=jH Q;obtain⟨Z,O⟩:=nT (pR T er w);have aa:=jH O;rw[O];clear Q O;go_in;go_upto_region 1 with fail;obtain⟨E,I,hk2,A,J⟩:=C.out _ rfl;generalize ((w.alloc _).alloc _).alloc _=w1 at*;obtain⟨c0,c1⟩:=E.a2;obtain⟨t0,ae,af,t3⟩:=I.a4;obtain⟨ag,ah,ai⟩:=hk2.a3;have V:=jH (jU A J);have N:=jH (U _ A);clear C E I hk2 A J U;go_wp2_with fail;refine N.mono ?_;rintro e w2 ⟨rfl,hb⟩;have Y:=jH hb;clear hb N c0 c1 t0 ae af t3 ag ah ai;go_wp2_with fail;try go_returns
 rw[<-aa.out];exact⟨rfl,V.1.trans (Y.mono (by have:=V.2;omega))⟩
def zf3:Array jP:=#[ng nI 0,ny ⟨#[]⟩,ny ⟨#[]⟩]
structure EnB(g r bn bi:Nat)(c:oK)(L:List oV)(ms:Array jP)(w0 W:jJ):Prop where
 rg:qp r bn bi c L W
 ms:nO W g ms zq
 rs:nO W (g+1) zf3 rq
 qa:jS g w0 W
 lt:w0.heap.size=g/\r<g/\bn<g/\bi<g
theorem EnB.below{g r bn bi:Nat}{c:oK}{L:List oV}{ms:Array jP}{w0 W A:jJ}(h:EnB g r bn bi c L ms w0 W)(hb:jS W.heap.size W A):EnB g r bn bi c L ms w0 A:=
 ⟨h.rg.below hb,Below.blk hb h.ms h.ms.lt,Below.blk hb h.rs h.rs.lt,h.qa.trans (hb.mono (by have:=h.ms.lt;omega)),h.lt⟩
structure EnL(g r bn bi:Nat)(c:oK)(L:List oV)(ms:Array jP)(w0:jJ)(k:Nat)(x:RC)(da ds:Bool)(W:jJ):Prop where
 b:EnB g r bn bi c L ms w0 W
 sz:W.heap.size=if da=true then k+1 else k
 bk:da=true->nO W k (if ds=true then x else CW).cs Fg
 lt:g+1<k
theorem EnL.made{g r bn bi:Nat}{c:oK}{L:List oV}{ms:Array jP}{w0:jJ}{k:Nat}{x:RC}{W:jJ}(h:EnL g r bn bi c L ms w0 k x false false W):EnL g r bn bi c L ms w0 k x true false (W.alloc (nG CW.cs Fg)):=by
 have A:W.heap.size=k:=by simpa using h.sz
 exact⟨h.b.below ((jT W.heap.size W).alloc (jL _) _),by simp[A],λ_=>A▸nO.new W CW.cs Fg,h.lt⟩
theorem EnL.put{g r bn bi:Nat}{c:oK}{L:List oV}{ms:Array jP}{w0:jJ}{k:Nat}{x:RC}{W:jJ}(h:EnL g r bn bi c L ms w0 k x true false W)(h0:qp r bn bi c L w0):EnL g r bn bi c L ms w0 k x true true (C8 W k x):=by
 have l:=h.b.lt;have A:=h.lt;have hb:=ve (x:=x) h.b.qa (show g<=k by omega);exact⟨⟨h0.below (l.1▸hb),wX h.b.ms nK,wX h.b.rs nK,hb,l⟩,by rw[Jz];exact h.sz,λ_=>yo (h.bk rfl),h.lt⟩
structure SQ(g k:Nat)(ms:Array jP)(x:RC)(w0 W:jJ):Prop where
 qa:jS g w0 W
 ms:nO W g ms zq
 rs:nO W (g+1) zf3 rq
 rw_:nO W k x.cs Fg
theorem SQ.up{g k:Nat}{ms:Array jP}{x:RC}{w0 W A:jJ}(h:SQ g k ms x w0 W)(hb:jS W.heap.size W A):SQ g k ms x w0 A:=
 ⟨h.qa.trans (hb.mono (by have:=h.ms.lt;omega)),Below.blk hb h.ms h.ms.lt,Below.blk hb h.rs h.rs.lt,Below.blk hb h.rw_ h.rw_.lt⟩
noncomputable def FC:List lX:=cO (cL (cR (cR (cB Tryz.f36))))
section
variable (g r bn bi:Nat)(c:oK)(L:List oV)(nm tx:ByteArray)(li:Bool)(oi:Option l5)(ni ci:Nat)(w0:jJ)(k:Nat)(b:Bool)(x:RC)
def AJ:Nat->jP
 |0=> nz (some ⟨r,0,none⟩)
 |1=> nz (some ⟨r,0,none⟩)
 |2=> nz (some ⟨r,6,none⟩)
 |3=> .map (some bn)
 |4=> nz (some ⟨g,0,none⟩)
 |5=> ny nm
 |6=> nD #[nC #[ng nI x.i,ny x.nm,ny x.tx,ng nH x.k,ng nH x.z,nk x.ou x.nu x.cu,ng nH x.tl],nA b]
 |7=> nD #[nC #[ng nI x.i,ny x.nm,ny x.tx,ng nH x.k,ng nH x.z,nk x.ou x.nu x.cu,ng nH x.tl],nA b]
 |8=> nC #[ng nI x.i,ny x.nm,ny x.tx,ng nH x.k,ng nH x.z,nk x.ou x.nu x.cu,ng nH x.tl]
 |9=> nA b
 |10=> nz (some ⟨k,0,none⟩)
 |12=> nA b
 |_=>kH
structure a6p(D:Nat->Bool)(vs:Nat->jP)(w:jJ):Prop where
 oJ:EnL g r bn bi c L #[ny nm,ny tx,nA li,nk oi ni ci] w0 k x (D 10) (D 11) w
 val:∀j,(true)=true->D j=true->vs j=AJ g r bn nm k b x j
variable {g r bn bi c L nm tx li oi ni ci w0 k b x}
theorem a1L{id:Nat}{Q:Exit->Act->jJ->Prop}{O:jJ}(ht0:a0.tmps.getD 0 kH=nz (some ⟨r,0,none⟩))(ht3:a0.tmps.getD 3 kH=nz (some ⟨g,0,none⟩))(hl:∀W,qp r bn bi c L W->(lV 130 (.map (some bn)) (ny nm) true).run jI W=.ok (nD #[nC #[ng nI x.i,ny x.nm,ny x.tx,ng nH x.k,ng nH x.z,nk x.ou x.nu x.cu,ng nH x.tl],nA b]) W)(h0:qp r bn bi c L w0)(hsz:a0.tmps.size=59)(hI0:∀vs:Nat->jP,(λw=>EnL g r bn bi c L #[ny nm,ny tx,nA li,nk oi ni ci] w0 k x false false w) O.drew)(U:∀(vs:Nat->jP) (w:jJ),EnL g r bn bi c L #[ny nm,ny tx,nA li,nk oi ni ci] w0 k x true true w->Q .normal {a0 with tmps:=((((((((((((a0.tmps.setIfInBounds 14 (nz (some ⟨r,0,none⟩))).setIfInBounds 15 (nz (some ⟨r,0,none⟩))).setIfInBounds 16 (nz (some ⟨r,6,none⟩))).setIfInBounds 17 (.map (some bn))).setIfInBounds 18 (nz (some ⟨g,0,none⟩))).setIfInBounds 19 (ny nm)).setIfInBounds 20 (nD #[nC #[ng nI x.i,ny x.nm,ny x.tx,ng nH x.k,ng nH x.z,nk x.ou x.nu x.cu,ng nH x.tl],nA b])).setIfInBounds 13 (nD #[nC #[ng nI x.i,ny x.nm,ny x.tx,ng nH x.k,ng nH x.z,nk x.ou x.nu x.cu,ng nH x.tl],nA b])).setIfInBounds 21 (nC #[ng nI x.i,ny x.nm,ny x.tx,ng nH x.k,ng nH x.z,nk x.ou x.nu x.cu,ng nH x.tl])).setIfInBounds 22 (nA b)).setIfInBounds 6 (nz (some ⟨k,0,none⟩))).setIfInBounds 7 (nA b))} w):
  (lg id FC.toArray true).wp jI Q a0 O:=by
 refine og 13 59 (a6p g r bn bi c L nm tx li oi ni ci w0 k b x) nM hsz nM (.inl rfl) nM ?_ ?_ ?_;.exact qF
 .refine rV λA ag=> ?_
  clear hI0 U hsz;replace ht0:=jH ht0;replace ht3:=jH ht3;replace hl:=jH hl;replace h0:=jH h0;dsimp+instances only[FC,cO,cL,cR,cB,Tryz.f36];simp only[ky,kQ,rz];refine⟨?_,?_,?_,?_,?_,?_,?_,?_,?_,?_,?_,?_,?_,trivial⟩<;>(intro D vs a w K hI hd E hw2 C J;subst ag;dsimp+instances only[FC,cO,cL,cR,cB,Tryz.f36]);have av:=(C 0 nN).trans ht0.out;rotate_left;have ai:=fe C hI.val E 14 0;rotate_left;have aj:=fe C hI.val E 15 1;rotate_left;have V:=fe C hI.val E 16 2;simp only[AJ]at V;have c0:=hI.oJ.b.rg.rg.c6;rotate_left;have e3:=(C 3 nN).trans ht3.out;rotate_left;have Y:=fe C hI.val E 18 4;simp only[AJ]at Y;have c0:=hI.oJ.b.ms.c0;rotate_left;have hl:=hl.out;have Z:=fe C hI.val E 17 3;have aa:=fe C hI.val E 19 5;simp only[AJ]at Z aa;have q:=hl w hI.oJ.b.rg;rotate_left;have ak:=fe C hI.val E 20 6;rotate_left;have ae:=fe C hI.val E 13 7;rotate_left;have ae:=fe C hI.val E 13 7;rotate_left
  .have I:=hI.oJ
   have d11:=hw2 11 nN nM;rw[hd,d11]at I;have ax:w.heap.size=k:=by simpa using I.sz
   go_simp;refine J (nz (some ⟨k,0,none⟩)) _ _ rfl ⟨?_,uR hI.val⟩;rw[ow,nS D (show 11≠10 by decide),d11];exact I.made
  .have h0:=h0.out
   have ah:=fe C hI.val E 6 10;have af:=fe C hI.val E 21 8;simp only[AJ]at ah af;have d10:=E 10 nN nM;have I:=hI.oJ;rw[d10,hd]at I;have hB:=I.bk rfl;obtain⟨⟨z0,ay,az,z3,z4,z5,aA⟩,aB,f1,f2,f3,f4,aC,aD⟩:=qf hB;go_simp;rw[Ao];refine J kH _ _ rfl ⟨?_,uR hI.val⟩;rw[nS D (show 10≠11 by decide),d10,ow];exact I.put h0
  have au:=fe C hI.val E 22 9;rotate_left
  all_goals
   try simp only[AJ]at*
   go_simp;exact J _ _ _ rfl ⟨hI.oJ,uR hI.val⟩
 .intro D vs w N hI
  have E:=hI.oJ;rw[N 10 nN]at E;rw[N 11 nN]at E;have q:=U vs w E;rw[oW hI.val N];dsimp+instances only[FC,cO,cL,cR,cB,Tryz.f36];exact qD
end
noncomputable def FD:List lX:=cO (cL (cR (cR (cR (cR (cB Tryz.f36))))))
section
variable (g r k:Nat)(c:oK)(x:RC)(nm tx:ByteArray)(li:Bool)(oi:Option l5)(ni ci:Nat)(w0:jJ)(fn:FuncId)(T:ByteArray)(er:Int)
def xH:Nat->jP
 |0=> nz (some ⟨r,0,none⟩)
 |1=> nz (some ⟨r,0,none⟩)
 |2=> nz (some ⟨r,8,none⟩)
 |3=> nz (some ⟨r,8,none⟩)
 |4=> .func (.func fn) #[nC #[ng nH c.dep,ng nH c.oZ]] #[]
 |5=> nz (some ⟨k,3,none⟩)
 |6=> nC #[ng nH x.k,ng nH x.z,nk x.ou x.nu x.cu,ng nH x.tl]
 |7=> nz (some ⟨g,1,none⟩)
 |8=> nC #[ny tx,nA li,nk oi ni ci]
 |9=> nD #[ny T,ng nH er]
 |10=> nD #[ny T,ng nH er]
 |11=> ny T
 |12=> ng nH er
 |13=> ny T
 |14=> ng nH er
 |_=>kH
structure YP(D:Nat->Bool)(vs:Nat->jP)(w:jJ):Prop where
 oJ:SQ g k #[ny nm,ny tx,nA li,nk oi ni ci] x w0 w
 val:∀j,(true)=true->D j=true->vs j=xH g r k c x tx li oi ni ci fn T er j
variable {g r k c x nm tx li oi ni ci w0 fn T er}
theorem YQ{D:Nat->Bool}{vs:Nat->jP}{w w':jJ}(h:YP g r k c x nm tx li oi ni ci w0 fn T er D vs w){i:Nat}(hi:True)(A:SQ g k #[ny nm,ny tx,nA li,nk oi ni ci] x w0 w->SQ g k #[ny nm,ny tx,nA li,nk oi ni ci] x w0 w'):YP g r k c x nm tx li oi ni ci w0 fn T er (zm D i) (zn vs i (xH g r k c x tx li oi ni ci fn T er i)) w':=by
 refine⟨?_,uR h.val⟩;exact A h.oJ
theorem a1M{id:Nat}{Q:Exit->Act->jJ->Prop}{I:jJ}(ht0:a0.tmps.getD 0 kH=nz (some ⟨r,0,none⟩))(Iz:∀W,SQ g k #[ny nm,ny tx,nA li,nk oi ni ci] x w0 W->W.cell? ⟨r,8,none⟩=some (.func (.func fn) #[nC #[ng nH c.dep,ng nH c.oZ]] #[]))(Aq:a0.tmps.getD 6 kH=nz (some ⟨k,0,none⟩))(ht3:a0.tmps.getD 3 kH=nz (some ⟨g,0,none⟩))(hput:∀W,SQ g k #[ny nm,ny tx,nA li,nk oi ni ci] x w0 W->jV jI fn #[nC #[ng nH c.dep,ng nH c.oZ],nC #[ng nH x.k,ng nH x.z,nk x.ou x.nu x.cu,ng nH x.tl],nC #[ny tx,nA li,nk oi ni ci]] W (pR T er W))(hcf:∀a b d W,mi jI (callFunc fn #[a,b,d]) W=.ok (.enter fn #[a,b,d]) W)(hsz:a0.tmps.size=59)(hI0:∀vs:Nat->jP,(λw=>SQ g k #[ny nm,ny tx,nA li,nk oi ni ci] x w0 w) I.drew)(J:∀(vs:Nat->jP) (w:jJ),SQ g k #[ny nm,ny tx,nA li,nk oi ni ci] x w0 w->Q .normal {a0 with tmps:=(((((((((((((((a0.tmps.setIfInBounds 27 (nz (some ⟨r,0,none⟩))).setIfInBounds 28 (nz (some ⟨r,0,none⟩))).setIfInBounds 29 (nz (some ⟨r,8,none⟩))).setIfInBounds 30 (nz (some ⟨r,8,none⟩))).setIfInBounds 31 (.func (.func fn) #[nC #[ng nH c.dep,ng nH c.oZ]] #[])).setIfInBounds 32 (nz (some ⟨k,3,none⟩))).setIfInBounds 33 (nC #[ng nH x.k,ng nH x.z,nk x.ou x.nu x.cu,ng nH x.tl])).setIfInBounds 34 (nz (some ⟨g,1,none⟩))).setIfInBounds 35 (nC #[ny tx,nA li,nk oi ni ci])).setIfInBounds 36 (nD #[ny T,ng nH er])).setIfInBounds 26 (nD #[ny T,ng nH er])).setIfInBounds 37 (ny T)).setIfInBounds 38 (ng nH er)).setIfInBounds 8 (ny T)).setIfInBounds 9 (ng nH er))} w):
  (lg id FD.toArray true).wp jI Q a0 I:=by
 refine og 15 59 (YP g r k c x nm tx li oi ni ci w0 fn T er) nM hsz nM (.inl rfl) nM ?_ ?_ ?_;.exact qF
 .refine rV λA af=> ?_
  clear hI0 J hsz;replace ht0:=jH ht0;replace Iz:=jH Iz;replace Aq:=jH Aq;replace ht3:=jH ht3;replace hput:=jH hput;replace hcf:=jH hcf;dsimp+instances only[FD,cO,cL,cR,cB,Tryz.f36];simp only[ky,kQ,rz];refine⟨?_,?_,?_,?_,?_,?_,?_,?_,?_,?_,?_,?_,?_,?_,?_,trivial⟩<;>(intro D vs a w K hI hd E hw2 C N;subst af;dsimp+instances only[FD,cO,cL,cR,cB,Tryz.f36]);have ay:=(C 0 nN).trans ht0.out;rotate_left;have ai:=fe C hI.val E 27 0;rotate_left;have aj:=fe C hI.val E 28 1;rotate_left;have ak:=fe C hI.val E 29 2;rotate_left;have Iz:=Iz.out;have O:=fe C hI.val E 30 3;simp only[xH]at O;have c0:=Iz w hI.oJ;rotate_left;have az:=(C 6 nN).trans Aq.out;rotate_left;have U:=fe C hI.val E 32 5;simp only[xH]at U;obtain⟨⟨c0,c1,c2,c3,c4,c5,c6⟩,_⟩:=qf hI.oJ.rw_;rotate_left;have e3:=(C 3 nN).trans ht3.out;rotate_left;have V:=fe C hI.val E 34 7;simp only[xH]at V;have hB:=hI.oJ.ms;have c1:=hB.c1;have c2:=hB.c2;have c3:=hB.c3;clear hB;rotate_left
  .have hput:=hput.out
   have hcf:=hcf.out;have Y:=fe C hI.val E 31 4;have Z:=fe C hI.val E 33 6;have aa:=fe C hI.val E 35 8;simp only[xH]at Y Z aa;have ag:=hput w hI.oJ;clear hput;rw[if_pos (by rfl)];go_simp;refine ag.mono ?_;rintro e aA ⟨rfl,hb⟩;exact N (xH g r k c x tx li oi ni ci fn T er 9) _ _ rfl (YQ hI (i:=9) nN λh=>h.up hb)
  have au:=fe C hI.val E 36 9;rotate_left;have ae:=fe C hI.val E 26 10;rotate_left;have ae:=fe C hI.val E 26 10;rotate_left;have av:=fe C hI.val E 37 11;rotate_left;have ax:=fe C hI.val E 38 12;rotate_left
  all_goals
   try simp only[xH]at*
   go_simp;exact N _ _ _ rfl ⟨hI.oJ,uR hI.val⟩
 .intro D vs w ah hI
  have E:=hI.oJ;have q:=J vs w E;rw[oW hI.val ah];dsimp+instances only[FD,cO,cL,cR,cB,Tryz.f36];exact qD
end
def yY(c:oK)(o:Option Row)(T:ByteArray)(er:Nat):vS×Nat:=match o with
 |none=>(⟨0,⟨#[]⟩,⟨#[]⟩⟩,11)
 |some x=>if er≠0 then(⟨0,⟨#[]⟩,⟨#[]⟩⟩,er)else if c.fmt=1 then(⟨0,x.name,T⟩,0)else(⟨x.id,⟨#[]⟩,T⟩,0)
def Bi(c:oK):FuncId:=if c.fmt=1 then 85 else 83
theorem YR(c:oK):∀a b d W,mi jI (callFunc (Bi c) #[a,b,d]) W=.ok (.enter (Bi c) #[a,b,d]) W:=by
 unfold Bi;split<;>exact λ_ _ _ _=>rfl
theorem YS(c:oK):GM c=.func (.func (Bi c)) #[nC #[ng nH c.dep,ng nH c.oZ]] #[]:=by
 unfold GM Bi;split<;>rfl
theorem QB(r bn bi:Nat)(c:oK)(L:List oV)(nm tx:ByteArray)(li:Bool)(oi:Option l5)(ni ci:Nat)(T:ByteArray)(er:Nat)(w:jJ)(h:qp r bn bi c L w)(hn:nm.size<=j5)(hput:∀x,(L.find? λx=>decide (x.r.name=nm))=some x->∀W,jS w.heap.size w W->jV jI (Bi c) #[nC #[ng nH c.dep,ng nH c.oZ],nC #[ng nH x.r.ty.lab.kind,ng nH x.r.ty.lab.size,nk x.ou x.r.ty.sub.length x.cu,ng nH x.r.ty.lab.tail],nC #[ny tx,nA li,nk oi ni ci]] W (pR T er W)):
  jV jI 36 #[nz (some ⟨r,0,none⟩),nC #[ny nm,ny tx,nA li,nk oi ni ci]] w λe w'=>e=nE (nD #[nC #[ng nI (yY c ((L.find? λx=>decide (x.r.name=nm)).map λx=>x.r) T er).1.id,ny (yY c ((L.find? λx=>decide (x.r.name=nm)).map λx=>x.r) T er).1.name,ny (yY c ((L.find? λx=>decide (x.r.name=nm)).map λx=>x.r) T er).1.body],ng nH (yY c ((L.find? λx=>decide (x.r.name=nm)).map λx=>x.r) T er).2])/\jS w.heap.size w w':=by
 obtain⟨g,hg⟩:=nT w.heap.size;have aR:=h.lt3;have az:jW (∀W,(w.alloc (nG #[ny nm,ny tx,nA li,nk oi ni ci] zq)).alloc (nG #[ng nI 0,ny ⟨#[]⟩,ny ⟨#[]⟩] rq)=W->EnB g r bn bi c L #[ny nm,ny tx,nA li,nk oi ni ci] w W/\W.heap.size=g+2):=jH λW U=>by
  subst U;have O:=(jT w.heap.size w).alloc (jL _) (nG #[ny nm,ny tx,nA li,nk oi ni ci] zq);have a2:=O.alloc nR (nG #[ng nI 0,ny ⟨#[]⟩,ny ⟨#[]⟩] rq);have aH:=nO.new (w.alloc (nG #[ny nm,ny tx,nA li,nk oi ni ci] zq)) #[ng nI 0,ny ⟨#[]⟩,ny ⟨#[]⟩] rq;rw[show(w.alloc (nG #[ny nm,ny tx,nA li,nk oi ni ci] zq)).heap.size=g+1 by simp[hg]]at aH;exact⟨⟨h.below a2,(hg▸nO.new w _ _:nO _ g _ _).alloc _,aH,hg▸a2,hg,nK⟩,by simp[hg]⟩
 have ak:jW (∀W,qp r bn bi c L W->_):=jH λW U=>U.look nm hn
 have aB:=jH h;obtain⟨aC,af,V⟩:=yt L λx=>decide (x.r.name=nm)
 rw[af]at ak;unfold RC.cs at ak;obtain⟨o,ho⟩:=nT ((L.find? λx=>decide (x.r.name=nm)));rw[ho]at ak hput V⊢;have aD:=jH hput;have aS:=jH V;have aI:=jH (YR c);have aJ:=jH (YS c);obtain⟨E,aF⟩:=nT (yY c (o.map λx=>x.r) T er);have av:=jH aF;rw[aF];obtain⟨⟨Iy,ag,ah⟩,ai⟩:=E;rw[hg];dsimp only;clear h hn hput ho af V aF aR;go_in;go_upto_region 3 with fail;obtain⟨hI,aK⟩:=az.out _ rfl;generalize (w.alloc _).alloc _=w1 at*;have au:=jH (jU hI aK);clear az hI aK;refine a1L (g:=g) (r:=r) (bn:=bn) (bi:=bi) (c:=c) (L:=L) (nm:=nm) (tx:=tx) (li:=li) (oi:=oi) (ni:=ni) (ci:=ci) (w0:=w) (k:=g+2) (b:=o.isSome) (x:=aC) (ht0:=by rfl) (ht3:=by rfl) (hl:=ak.out) (h0:=aB.out) (hsz:=by rfl) (hI0:=λ_=>⟨au.1.below (oz w1),by simpa using au.2,(λh=>by cases h),nK⟩) ?_;intro vs Y hF;have I:=jH (jU hF.b (jU (hF.bk rfl:nO Y (g+2) aC.cs Fg) (show Y.heap.size=g+3 by simpa using hF.sz)));clear hF au ak;simp only[jK,jQ,jR];obtain⟨aL,f1,f2⟩:=I.1.rs.f3;have z0:=I.1.rs.cell 0;have ax:=I.1.rs.cell 1;have ay:=I.1.rs.cell 2;simp only[zf3,jO,jN,jM]at z0 ax ay;cases o with
 |none=>
  have J:jW (Iy=0/\ag=⟨#[]⟩/\ah=⟨#[]⟩/\ai=11):=jH (by have:=av.out;simp only[yY,Option.map]at this;injection this with a b;injection a with O a2 a3;exact⟨O.symm,a2.symm,a3.symm,b.symm⟩);go_wp2_with fail;have N:nO (((Y.setCell ⟨g+1,0,none⟩ (ng nI 0)).setCell ⟨g+1,1,none⟩ (ny ⟨#[]⟩)).setCell ⟨g+1,2,none⟩ (ny ⟨#[]⟩)) (g+1) #[ng nI 0,ny ⟨#[]⟩,ny ⟨#[]⟩] rq:=((I.1.rs.set 0 _).set 1 _).set 2 _;obtain⟨Z,aa,ae⟩:=N.a3;have A:jS g w (((Y.setCell ⟨g+1,0,none⟩ (ng nI 0)).setCell ⟨g+1,1,none⟩ (ny ⟨#[]⟩)).setCell ⟨g+1,2,none⟩ (ny ⟨#[]⟩)):=((I.1.qa.setCell (p:=⟨g+1,0,none⟩) (kX g) _).setCell (p:=⟨g+1,1,none⟩) (kX g) _).setCell (p:=⟨g+1,2,none⟩) (kX g) _;generalize ((Y.setCell ⟨g+1,0,none⟩ _).setCell ⟨g+1,1,none⟩ _).setCell ⟨g+1,2,none⟩ _=aG at*;refine j4 (v:=nD #[nC #[ng nI 0,ny ⟨#[]⟩,ny ⟨#[]⟩],ng nH 11]) (by simp[kK,Tryz.results36,go_sem,Z,aa,ae]) rfl ⟨?_,A⟩;obtain⟨rfl,rfl,rfl,rfl⟩:=J.out;rfl
 |some x=>
  have af:aC=x.rc:=aS.out;subst af;have Iz:∀W,SQ g (g+2) #[ny nm,ny tx,nA li,nk oi ni ci] x.rc w W->W.cell? ⟨r,8,none⟩=some (.func (.func (Bi c)) #[nC #[ng nH c.dep,ng nH c.oZ]] #[]):=λW U=>by
   have hB:=(aB.below (hg.symm▸U.qa)).rg.cell 8;rw[<-aJ.out];exact hB
  have aM:=jH Iz;clear Iz;go_upto_region 6 with fail;have aN:SQ g (g+2) #[ny nm,ny tx,nA li,nk oi ni ci] x.rc w Y.drew:=SQ.up ⟨I.1.qa,I.1.ms,I.1.rs,I.2.1⟩ (oz Y);have aA:=jH (λ(W:jJ) (U:SQ g (g+2) #[ny nm,ny tx,nA li,nk oi ni ci] x.rc w W)=>aD.out x rfl W (hg.symm▸U.qa));refine a1M (g:=g) (r:=r) (k:=g+2) (c:=c) (x:=x.rc) (nm:=nm) (tx:=tx) (li:=li) (oi:=oi) (ni:=ni) (ci:=ci) (w0:=w) (fn:=Bi c) (T:=T) (er:=er) (ht0:=by rfl) (Aq:=by rfl) (ht3:=by rfl) (Iz:=aM.out) (hput:=aA.out) (hcf:=aI.out) (hsz:=by rfl) (hI0:=λ_=>aN) ?_;intro aZ Q aO;have C:=jH aO;clear aO aN I aA aL f1 f2 z0 ax ay;simp only[jK,jQ,jR];obtain⟨aL,f1,f2⟩:=C.rs.f3;have z0:=C.rs.cell 0;have ax:=C.rs.cell 1;have ay:=C.rs.cell 2;have c0:=(aB.below (hg.symm▸C.qa)).rg.cell 0;obtain⟨⟨aP,aQ,y2,aT,aU,aV,aW⟩,_⟩:=qf C.rw_;simp only[zf3,jO,jN,jM]at z0 ax ay c0;unfold oV.rc at aP aQ y2;dsimp only at aP aQ y2;clear aT aU aV aW;by_cases he:er=0
  .have aX:((er:Int) !=0)=false:=by simp[he]
   by_cases aj:c.fmt=1
   .have aY:(c.fmt==1)=true:=by simp[aj]
    have J:jW (Iy=0/\ag=x.r.name/\ah=T/\ai=0):=jH (by have:=av.out;simp only[yY,Option.map]at this;rw[if_neg (by simp[he]),if_pos aj]at this;injection this with a b;injection a with O a2 a3;exact⟨O.symm,a2.symm,a3.symm,b.symm⟩);clear aj;go_wp2_with fail;have N:nO (((Q.setCell ⟨g+1,0,none⟩ (ng nI 0)).setCell ⟨g+1,1,none⟩ (ny x.r.name)).setCell ⟨g+1,2,none⟩ (ny T)) (g+1) #[ng nI 0,ny x.r.name,ny T] rq:=((C.rs.set 0 _).set 1 _).set 2 _;obtain⟨Z,aa,ae⟩:=N.a3;have A:jS g w (((Q.setCell ⟨g+1,0,none⟩ (ng nI 0)).setCell ⟨g+1,1,none⟩ (ny x.r.name)).setCell ⟨g+1,2,none⟩ (ny T)):=((C.qa.setCell (p:=⟨g+1,0,none⟩) (kX g) _).setCell (p:=⟨g+1,1,none⟩) (kX g) _).setCell (p:=⟨g+1,2,none⟩) (kX g) _;generalize ((Q.setCell ⟨g+1,0,none⟩ _).setCell ⟨g+1,1,none⟩ _).setCell ⟨g+1,2,none⟩ _=aG at*;refine j4 (v:=nD #[nC #[ng nI 0,ny x.r.name,ny T],ng nH 0]) (by simp[kK,Tryz.results36,go_sem,Z,aa,ae]) rfl ⟨?_,A⟩;obtain⟨rfl,rfl,rfl,rfl⟩:=J.out;rfl
   .have aY:(c.fmt==1)=false:=by simp[aj]
    have J:jW (Iy=x.r.id/\ag=⟨#[]⟩/\ah=T/\ai=0):=jH (by have:=av.out;simp only[yY,Option.map]at this;rw[if_neg (by simp[he]),if_neg aj]at this;injection this with a b;injection a with O a2 a3;exact⟨O.symm,a2.symm,a3.symm,b.symm⟩);clear aj;go_wp2_with fail;have N:nO (((Q.setCell ⟨g+1,0,none⟩ (ng nI x.r.id)).setCell ⟨g+1,1,none⟩ (ny ⟨#[]⟩)).setCell ⟨g+1,2,none⟩ (ny T)) (g+1) #[ng nI x.r.id,ny ⟨#[]⟩,ny T] rq:=((C.rs.set 0 _).set 1 _).set 2 _;obtain⟨Z,aa,ae⟩:=N.a3;have A:jS g w (((Q.setCell ⟨g+1,0,none⟩ (ng nI x.r.id)).setCell ⟨g+1,1,none⟩ (ny ⟨#[]⟩)).setCell ⟨g+1,2,none⟩ (ny T)):=((C.qa.setCell (p:=⟨g+1,0,none⟩) (kX g) _).setCell (p:=⟨g+1,1,none⟩) (kX g) _).setCell (p:=⟨g+1,2,none⟩) (kX g) _;generalize ((Q.setCell ⟨g+1,0,none⟩ _).setCell ⟨g+1,1,none⟩ _).setCell ⟨g+1,2,none⟩ _=aG at*;refine j4 (v:=nD #[nC #[ng nI x.r.id,ny ⟨#[]⟩,ny T],ng nH 0]) (by simp[kK,Tryz.results36,go_sem,Z,aa,ae]) rfl ⟨?_,A⟩;obtain⟨rfl,rfl,rfl,rfl⟩:=J.out;rfl
  .have aX:((er:Int) !=0)=true:=nQ
   have J:jW (Iy=0/\ag=⟨#[]⟩/\ah=⟨#[]⟩/\ai=er):=jH (by have:=av.out;simp only[yY,Option.map]at this;rw[if_pos he]at this;injection this with a b;injection a with O a2 a3;exact⟨O.symm,a2.symm,a3.symm,b.symm⟩);go_wp2_with fail;have N:nO (((Q.setCell ⟨g+1,0,none⟩ (ng nI 0)).setCell ⟨g+1,1,none⟩ (ny ⟨#[]⟩)).setCell ⟨g+1,2,none⟩ (ny ⟨#[]⟩)) (g+1) #[ng nI 0,ny ⟨#[]⟩,ny ⟨#[]⟩] rq:=((C.rs.set 0 _).set 1 _).set 2 _;obtain⟨Z,aa,ae⟩:=N.a3;have A:jS g w (((Q.setCell ⟨g+1,0,none⟩ (ng nI 0)).setCell ⟨g+1,1,none⟩ (ny ⟨#[]⟩)).setCell ⟨g+1,2,none⟩ (ny ⟨#[]⟩)):=((C.qa.setCell (p:=⟨g+1,0,none⟩) (kX g) _).setCell (p:=⟨g+1,1,none⟩) (kX g) _).setCell (p:=⟨g+1,2,none⟩) (kX g) _;generalize ((Q.setCell ⟨g+1,0,none⟩ _).setCell ⟨g+1,1,none⟩ _).setCell ⟨g+1,2,none⟩ _=aG at*;refine j4 (v:=nD #[nC #[ng nI 0,ny ⟨#[]⟩,ny ⟨#[]⟩],ng nH er]) (by simp[kK,Tryz.results36,go_sem,Z,aa,ae]) rfl ⟨?_,A⟩;obtain⟨rfl,rfl,rfl,rfl⟩:=J.out;rfl
end
section
open Go.RowKit
theorem z8{t e s:ko}(T:ql P t e s){rest:List lX}{o:lX}{a:Act}{Q:Exit->Act->jJ->Prop}(I:o.guard=none)(x y:Operand)(ho:o.op=.call {callee:=.builtin .append,args:=#[x,y],argTypes:=#[t,t]})(B:Nat)(v:jP)(l:List UInt8)(b:UInt8)(w:jJ)(cs:Array jP)(J:cs.toList=nU [b])(aa:a.eval x=v)(E:oD w B e v l)(ae:a.eval y=nk (some ⟨w.heap.size,0,none⟩) 1 1)(hlen:l.length+1<=140737488355328)(hB:B<=w.heap.size)(h:∀v' w',oD w' B e v' (l++[b])->w.grownBy w' v.ownBlock->(v'.ownBlock=v.ownBlock\/∃g,v'.ownBlock=some g/\w.heap.size<=g)->wpList P ops Q rest (a.put o.dst v') w'):
  wpList P ops Q (o::rest) a (w.alloc (nG cs e)):=by
 obtain⟨af,hi,N,O,U⟩:=info_parts T.hi;have V:=(jT w.heap.size w).alloc (jL _) (nG cs e);have Y:=nO.new w cs e
 refine wpList_append_lies _ I x y t ho B e af (ng .u8 0) 1 1 T.ht hi N O U rfl nN v l.length (nU l) aa (World.ownsRow.alloc E _)
  ⟨w.heap.size,0,none⟩ 1 1 (nU [b]) ae nR ?_ (rM _) nN zg nK nQ _ rfl ?_
 .intro j u ag
  have e1:(⟨w.heap.size,0,none⟩:l5).add j=⟨w.heap.size,j,none⟩:=FM;rw[e1,Y.cell,<-ag,<-J,Array.getElem?_toList]
 .intro g cap w' ah A C ai
  refine h _ w' ?_ ⟨A.os,A.tape,A.output,by have:=A.size;simp at this;omega,λc hc Z=>(A.block c nQ Z).trans (V.block c hc)⟩ ?_
  .show w'.ownsRow B e 1 _ (l++[b]).length (nU (l++[b]))
   rw[jY,pg];exact ah
  .rcases C with C|C
   .exact .inl C.symm
   .exact .inr ⟨g,rfl,by rw[C];simp⟩
theorem EM{t e s:ko}(T:ql P t e s){rest:List lX}{o:lX}{a:Act}{Q:Exit->Act->jJ->Prop}(C:o.guard=none)(x y:Operand)(ho:o.op=.call {callee:=.builtin .append,args:=#[x,y],argTypes:=#[t,s]})(B:Nat)(v:jP)(l:List UInt8)(S:ByteArray)(w:jJ)(N:a.eval x=v)(A:oD w B e v l)(O:a.eval y=ny S)(hlen:l.length+S.size<=140737488355328)(hB:B<=w.heap.size)(h:∀v' w',oD w' B e v' (l++S.data.toList)->w.grownBy w' v.ownBlock->wpList P ops Q rest (a.put o.dst v') w'):
  wpList P ops Q (o::rest) a w:=by
 obtain⟨U,hi,E,I,J⟩:=info_parts T.hi;refine Lib.wpList_append_own_string _ C x y t s ho B e U T.ht T.hs hi E I J v l.length (nU l) N A S O zg nK hB ?_;intro v' w' V Y _;refine h v' w' ?_ Y;have e1:Lib.strCells S=nU S.data.toList:=by simp[Lib.strCells,nU]
 show w'.ownsRow B e 1 v' (l++S.data.toList).length (nU (l++S.data.toList));rw[jY,pg,<-e1];have e2:S.data.toList.length=S.size:=nR;rw[e2];exact V
theorem Hu(b n B:Nat)(v:jP)(l:List UInt8)(w:jJ)(hb:b=128\/b=192)(hn:n<=1000000)(J:oD w B 5 v l)(hl:l.length<=1000000)(hB:B<=w.heap.size):
  jV jI 201 #[v,ng nH b,ng nH n] w λe w'=>∃v',e=nE v'/\oD w' B 5 v' (l++hdr b n)/\w.grownBy w' v.ownBlock:=by
 have au:b<=192:=nK;by_cases c:n<=55
 .have Q:jW (hdr b n=[jZ (b+n)]):=jH (by unfold hdr;rw[if_pos c])
  have av:b+n<=255:=nK;go_in;go_wp2_with (at_builtin;go_loud (refine z8 Ch rfl _ _ rfl B v l (jZ (b+n)) w _ (yf (n:=b+n) nK nK) rfl J rfl nK hB ?_);intro v' w' E A C;have N:=jH (jU E A);clear E A C);go_returns;exact⟨_,rfl,by rw[Q.out];exact N.1,N.2⟩
 .have c0:=jH (Jo n w nK)
  have ai:=DF 3 n (mF hn nN);have Q:jW (hdr b n=jZ (b+55+(xh n).length)::(xh n).reverse):=jH (by unfold hdr;rw[if_neg c]);obtain⟨S,U⟩:∃S:ByteArray,S=⟨(xh n).reverse.toArray⟩:=⟨_,rfl⟩;have Y:S.size=(xh n).length:=by rw[U,size_mk];simp
  rw[<-U]at c0;have Z:S.data.toList=(xh n).reverse:=by rw[U]
  rw[<-Y,<-Z]at Q;have ax:S.size<=3:=nK;have ah:=jH J;clear U Y Z J ai;go_in;go_wp2_with fail;refine c0.mono ?_;rintro e w2 ⟨rfl,I⟩;have V:=jH (ah.below I);have aa:B<=w2.heap.size:=kg hB I.size;have aj:=jH I;clear I
  go_wp2_with (first
   |(at_builtin;refine z8 Ch rfl _ _ rfl B v l (jZ (b+55+S.size)) w2 _ (yf (n:=b+55+S.size) nK nK) rfl V rfl nK aa ?_;intro v' w' E A C;have N:=jH (jU E (jU A C));have ak:=kg aa A.size;clear E A C)
   |(at_builtin;refine EM Ch rfl _ _ rfl B v' (l++[jZ (b+55+S.size)]) S w' rfl N.1 rfl nQ ak ?_;intro v2 w3 E A;have ae:=jH (jU E A);clear E A))
  go_returns;refine⟨_,rfl,?_,?_⟩
  .rw[Q.out]
   have:=ae.1;rwa [lD]at this
  .obtain⟨E,A,C⟩:=N.out
   have O:=ae.2;have h0:=aj.out;refine⟨O.os.trans (A.os.trans h0.os),O.tape.trans (A.tape.trans h0.tape),O.output.trans (A.output.trans h0.output),kg h0.size (kg A.size O.size),λc hc af=> ?_⟩;have ag:c<w2.heap.size:=kG hc h0.size;rw[O.block c (kG ag A.size) ?_,A.block c ag af,h0.block c hc];intro e;rcases C with C|⟨g,C,ay⟩
   .exact af (by rw[e,C])
   .rw[C]at e;cases e;omega
def Bj(c:oK)(rows:List Row)(mb:Nat)(buf:List UInt8)(nd fa:Int)(ch:ByteArray):List IU×List UInt8×Int×Int:=
 if fa≠0 then([],buf,nd,fa)
 else if(((buf++ch.data.toList).length:Nat):Int)<nd then([],buf++ch.data.toList,nd,fa)
 else(λR:a0T=>(R.told,(buf++ch.data.toList).drop R.at_,if R.err=2 then(Hg c ((⟨(buf++ch.data.toList).toArray⟩:ByteArray).extract R.at_ (⟨(buf++ch.data.toList).toArray⟩:ByteArray).size):Int)else nd,if R.err=2 then fa else(R.err:Int)))
  (xw c rows ⟨(buf++ch.data.toList).toArray⟩ ((buf++ch.data.toList).length+1) 0 (some (mb,((MS.new 9223372036854775807).take ch.size).1)))
def xI(w:jJ)(G r sb:Nat)(buf:List UInt8)(nd fa:Int):Prop:=∃bv la tt se,nO w sb (E5 r bv nd fa la tt se) K4/\oD w G wN bv buf
structure N9(c:oK)(rows:List Row)(G r sb mb:Nat)(buf:List UInt8)(nd fa:Int)(ch:ByteArray)(w:jJ)(lv:jP)(Lm:List He)(w':jJ):Prop where
 own:qJ w' (λd=>w.heap.size<=d) lv Lm
 told:Lm.map (λy=>y.m)=(Bj c rows mb buf nd fa ch).1
 ses:xI w' G r sb (Bj c rows mb buf nd fa ch).2.1 (Bj c rows mb buf nd fa ch).2.2.1 (Bj c rows mb buf nd fa ch).2.2.2
 qa:jS G w w'
structure ze(w0:jJ)(G sb r:Nat)(bv:jP)(buf:List UInt8)(nd fa la tt se:Int)(W:jJ):Prop where
 ss:nO W sb (E5 r bv nd fa la tt se) K4
 ob:oD W G wN bv buf
 bw:jS G w0 W
 lt:G<=sb/\sb<w0.heap.size/\G<=w0.heap.size
section
variable {w0:jJ}{G sb r:Nat}{bv bv2:jP}{buf a6r:List UInt8}{nd fa la tt se:Int}{W W':jJ}
theorem ze.below(h:ze w0 G sb r bv buf nd fa la tt se W)(hb:jS W.heap.size W W'):ze w0 G sb r bv buf nd fa la tt se W':=
 ⟨Below.blk hb h.ss h.ss.lt,h.ob.kp (sD.of (F:=λ_=>False) hb) (λ_ _ h=>h),h.bw.trans (hb.mono (by have:=h.lt;have:=h.bw.size;omega)),h.lt⟩
theorem ze.ne(h:ze w0 G sb r bv buf nd fa la tt se W):∀b,bv.ownBlock=some b->b≠sb:=λb hb=>Hm h.ob hb h.ss
theorem ze.kp(h:ze w0 G sb r bv buf nd fa la tt se W)(i:Nat)(v:jP):oD (W.setCell ⟨sb,i,none⟩ v) G wN bv buf:=
 h.ob.kp (sD.set (F:=λd=>d=sb) (p:=⟨sb,i,none⟩) (sD.refl _ W) (λ_=>rfl) v) λb hb e=>h.ne b hb e
theorem ze.bwp(h:ze w0 G sb r bv buf nd fa la tt se W)(i:Nat)(v:jP):jS G w0 (W.setCell ⟨sb,i,none⟩ v):=h.bw.setCell (p:=⟨sb,i,none⟩) h.lt.1 v
theorem ze.qi(h:ze w0 G sb r bv buf nd fa la tt se W)(x:Int):ze w0 G sb r bv buf nd fa x tt se (W.setCell ⟨sb,4,none⟩ (ng nH x)):=⟨h.ss.set 4 _,h.kp 4 _,h.bwp 4 _,h.lt⟩
theorem ze.a8Y(h:ze w0 G sb r bv buf nd fa la tt se W)(x:Int):ze w0 G sb r bv buf nd fa la x se (W.setCell ⟨sb,5,none⟩ (ng nH x)):=⟨h.ss.set 5 _,h.kp 5 _,h.bwp 5 _,h.lt⟩
theorem ze.grow(h:ze w0 G sb r bv buf nd fa la tt se W)(hg:W.grownBy W' bv.ownBlock)(ho:oD W' G wN bv2 a6r):ze w0 G sb r bv2 a6r nd fa la tt se (W'.setCell ⟨sb,1,none⟩ bv2):=by
 have A:=o8 h.ss hg h.ne;have C:=oD.blk h.ob;refine⟨A.set 1 _,ho.kp (sD.set (F:=λd=>d=sb) (p:=⟨sb,1,none⟩) (sD.refl _ W') (λ_=>rfl) bv2) (λb hb e=>Hm ho hb A e),(h.bw.trans (sD.below (F:=λd=>bv.ownBlock=some d) (sD.grown hg λ_ e=>e) (λc hc E=>by have:=C c E;omega) (by have:=h.lt;have:=h.bw.size;omega))).setCell (p:=⟨sb,1,none⟩) h.lt.1 bv2,h.lt⟩
theorem ze.upd(h:ze w0 G sb r bv buf nd fa la tt se W){b:Nat}(A:pE b W W')(hb:sb<b)(ho:∀d,bv.ownBlock=some d->d≠b)(I:G<=b):ze w0 G sb r bv buf nd fa la tt se W':=by
 have k:sD (λd=>d=b) W W':=sD.mono (sD.of2 (F:=λd=>d=b) (b:=b) (q:=b) ⟨A.os,A.tape,A.output,A.size,λk hk E _=>A.block k hk λe=>E (ma e)⟩ (λ_=>rfl) (λ_=>rfl)) λ_ _ h=>h
 exact⟨k.blk h.ss (by show sb≠b;omega),h.ob.kp k ho,h.bw.trans (k.below (λc hc C=>by have C:c=b:=C;omega) (by have:=h.lt;have:=h.bw.size;omega)),h.lt⟩
end
theorem Oa(c:oK)(rows:List Row)(s:ByteArray):∀(n p:Nat)(mt:Option (Nat×MS)),oI (xw c rows s n p mt).mt=oI mt
 |0,p,mt=>rfl
 |n+1,p,mt=>by
  have h:=D7 c rows (s.extract p s.size) mt;rcases hs:uy c rows (s.extract p s.size) mt with⟨R,m2⟩
  rw[hs]at h;cases R with
  |error er=>rw[NR c rows s n p mt hs];exact h
  |ok y=>rw[JC c rows s n p mt hs];exact(Oa c rows s n _ m2).trans h
theorem a4o{c:oK}{rows:List Row}{G r sb mb:Nat}{buf A:List UInt8}{nd:Int}{ch:ByteArray}{w w5 J:jJ}{C:MS}{O:Option l5}{Q:Nat}{la tt se:Int}{e:Ending}(h:yU G sb r mb c rows C O Q A nd 0 la tt se w5 e J)(aa:buf++ch.data.toList=A)(ae:((MS.new 9223372036854775807).take ch.size).1=C)(hI:ze w G sb r (nk O A.length Q) A nd 0 la tt se w5)(af:IsM w5 mb C)(au:w.heap.size<=mb)(ax:G<=mb):
  ∃(oa:Option l5) (cap:Nat) (Lm:List He) (ag:jP) (b6:List UInt8) (U V:Int) (E:MS),e=nE (nk oa Lm.length cap)/\ze w G sb r ag b6 U V la tt se J/\IsM J mb E/\qJ J (λd=>w.heap.size<=d) (nk oa Lm.length cap) Lm/\Bj c rows mb buf nd 0 ch=(Lm.map (λy=>y.m),b6,U,V):=by
 unfold Bj;rw[if_neg nR,aa,ae];unfold yU at h;by_cases Y:(A.length:Int)<nd
 .rw[if_pos Y]at h⊢
  obtain⟨rfl,hb⟩:=h;exact⟨none,0,[],_,A,nd,0,C,rfl,hI.below hb,Below.blk hb af af.lt,qJ.nil _ _,rfl⟩
 .rw[if_neg Y]at h⊢
  obtain⟨lv,rfl,hk⟩:=h;have hrow:=Oa c rows ⟨A.toArray⟩ (A.length+1) 0 (some (mb,C));generalize xw c rows ⟨A.toArray⟩ (A.length+1) 0 (some (mb,C))=R at*;obtain⟨Lm,⟨oa,cap,rfl⟩,Z,N⟩:=hk.msgs;obtain⟨bo',bc',ah,ai,av⟩:=hk.ses;obtain⟨told,at_,err,mt⟩:=R;obtain⟨E,rfl⟩:∃E,mt=some (mb,E):=by
   cases mt with
   |none=>cases hrow
   |some q=>obtain⟨ay,ak⟩:=q;cases hrow;exact⟨ak,rfl⟩
  have az:=hI.bw.size;have hlt:=hI.lt;have aj:=oD.blk hI.ob;refine⟨oa,cap,Lm,_,_,_,_,E,rfl,⟨ah,ai,hI.bw.trans (hk.kp.below (λd hd I=> ?_) nK),hlt⟩,hk.mt.1,qJ.keep Z (jL _) (λ_ _ _=>rfl) (λd _ hd=>by have hd:w5.heap.size<=d:=hd;omega),?_⟩
  .rcases I with I|I|I
   .omega
   .omega
   .have:=aj d I;omega
  .rw[N]
noncomputable def Lg:List lX:=cO (cL (cL (cR (cL (cR (cR (cR (cB Tryz.f13))))))))
section
variable (w0:jJ)(G sb r:Nat)(bv:jP)(buf:List UInt8)(nd fa la tt se:Int)(Bs:jJ->Prop)
def QC:Nat->jP
 |0=> nz (some ⟨sb,0,none⟩)
 |1=> nz (some ⟨sb,0,none⟩)
 |2=> nz (some ⟨sb,3,none⟩)
 |3=> ng nH fa
 |4=> nk none 0 0
 |5=> ng nH fa
 |_=>kH
structure a8Z(D:Nat->Bool)(vs:Nat->jP)(w:jJ):Prop where
 oJ:ze w0 G sb r bv buf nd fa la tt se w/\Bs w
 val:∀j,(true)=true->D j=true->vs j=QC sb fa j
variable {w0 G sb r bv buf nd fa la tt se Bs}
theorem a4p{id:Nat}{Q:Exit->Act->jJ->Prop}{I:jJ}(ht0:a0.tmps.getD 0 kH=nz (some ⟨sb,0,none⟩))(hsz:a0.tmps.size=58)(hI0:∀vs:Nat->jP,(λw=>ze w0 G sb r bv buf nd fa la tt se w/\Bs w) I.drew)(J:∀(vs:Nat->jP) (w:jJ),ze w0 G sb r bv buf nd fa la tt se w/\Bs w->Q .normal {a0 with tmps:=((((((a0.tmps.setIfInBounds 18 (nz (some ⟨sb,0,none⟩))).setIfInBounds 19 (nz (some ⟨sb,0,none⟩))).setIfInBounds 20 (nz (some ⟨sb,3,none⟩))).setIfInBounds 21 (ng nH fa)).setIfInBounds 4 (nk none 0 0)).setIfInBounds 5 (ng nH fa))} w):
  (lg id Lg.toArray true).wp jI Q a0 I:=by
 refine og 6 58 (a8Z w0 G sb r bv buf nd fa la tt se Bs) nM hsz nM (.inl rfl) nM ?_ ?_ ?_;.exact qF
 .refine rV λA O=> ?_
  clear hI0 J hsz;replace ht0:=jH ht0;dsimp+instances only[Lg,cO,cL,cR,cB,Tryz.f13];simp only[ky,kQ,rz];refine⟨?_,?_,?_,?_,?_,?_,trivial⟩<;>(intro D vs a w K hI hd E hw2 C U;subst O;dsimp+instances only[Lg,cO,cL,cR,cB,Tryz.f13]);have ae:=(C 0 nN).trans ht0.out;rotate_left;have Y:=fe C hI.val E 18 0;rotate_left;have Z:=fe C hI.val E 19 1;rotate_left;have N:=fe C hI.val E 20 2;simp only[QC]at N;have hB:=hI.oJ.1.ss;have c0:=hB.cell 3;simp only[E5,jO,jN,jM]at c0;clear hB;rotate_left;rotate_left;have aa:=fe C hI.val E 21 3;rotate_left
  all_goals
   try simp only[QC]at*
   go_simp;exact U _ _ _ rfl ⟨hI.oJ,uR hI.val⟩
 .intro D vs w V hI
  have E:=hI.oJ;have q:=J vs w E;rw[oW hI.val V];dsimp+instances only[Lg,cO,cL,cR,cB,Tryz.f13];exact qD
end
noncomputable def FE:List lX:=cO (cL (cR (cR (cR (cR (cR (cR (cR (cR (cR (cR (cB Tryz.f13))))))))))))
section
variable (w0:jJ)(G sb r:Nat)(bv:jP)(buf:List UInt8)(nd fa la tt se:Int)(Bs:jJ->Prop)(lv:jP)
def Lh:Nat->jP
 |0=>lv
 |1=> nz (some ⟨sb,0,none⟩)
 |2=> nz (some ⟨sb,0,none⟩)
 |3=> nz (some ⟨sb,3,none⟩)
 |4=> ng nH fa
 |5=>lv
 |6=> ng nH fa
 |_=>kH
structure a6s(D:Nat->Bool)(vs:Nat->jP)(w:jJ):Prop where
 oJ:ze w0 G sb r bv buf nd fa la tt se w/\Bs w
 val:∀j,(true)=true->D j=true->vs j=Lh sb fa lv j
variable {w0 G sb r bv buf nd fa la tt se Bs lv}
theorem a1N{id:Nat}{Q:Exit->Act->jJ->Prop}{I:jJ}(EK:a0.tmps.getD 7 kH=lv)(ht0:a0.tmps.getD 0 kH=nz (some ⟨sb,0,none⟩))(hsz:a0.tmps.size=58)(hI0:∀vs:Nat->jP,(λw=>ze w0 G sb r bv buf nd fa la tt se w/\Bs w) I.drew)(J:∀(vs:Nat->jP) (w:jJ),ze w0 G sb r bv buf nd fa la tt se w/\Bs w->Q .normal {a0 with tmps:=(((((((a0.tmps.setIfInBounds 53 (lv)).setIfInBounds 54 (nz (some ⟨sb,0,none⟩))).setIfInBounds 55 (nz (some ⟨sb,0,none⟩))).setIfInBounds 56 (nz (some ⟨sb,3,none⟩))).setIfInBounds 57 (ng nH fa)).setIfInBounds 4 (lv)).setIfInBounds 5 (ng nH fa))} w):
  (lg id FE.toArray true).wp jI Q a0 I:=by
 refine og 7 58 (a6s w0 G sb r bv buf nd fa la tt se Bs lv) nM hsz nM (.inl rfl) nM ?_ ?_ ?_;.exact qF
 .refine rV λA O=> ?_
  clear hI0 J hsz;replace EK:=jH EK;replace ht0:=jH ht0;dsimp+instances only[FE,cO,cL,cR,cB,Tryz.f13];simp only[ky,kQ,rz];refine⟨?_,?_,?_,?_,?_,?_,?_,trivial⟩<;>(intro D vs a w K hI hd E hw2 C U;subst O;dsimp+instances only[FE,cO,cL,cR,cB,Tryz.f13]);have af:=(C 7 nN).trans EK.out;rotate_left;have ag:=(C 0 nN).trans ht0.out;rotate_left;have Y:=fe C hI.val E 54 1;rotate_left;have Z:=fe C hI.val E 55 2;rotate_left;have N:=fe C hI.val E 56 3;simp only[Lh]at N;have hB:=hI.oJ.1.ss;have c0:=hB.cell 3;simp only[E5,jO,jN,jM]at c0;clear hB;rotate_left;have aa:=fe C hI.val E 53 0;rotate_left;have ae:=fe C hI.val E 57 4;rotate_left
  all_goals
   try simp only[Lh]at*
   go_simp;exact U _ _ _ rfl ⟨hI.oJ,uR hI.val⟩
 .intro D vs w V hI
  have E:=hI.oJ;have q:=J vs w E;rw[oW hI.val V];dsimp+instances only[FE,cO,cL,cR,cB,Tryz.f13];exact qD
end
theorem YT(G sb r bn bi:Nat)(c:oK)(L:List oV)(buf:List UInt8)(nd fa:Int)(ch:ByteArray)(w:jJ)(hc:oM c=true)(aL:c.wf)(hs:xI w G r sb buf nd fa)(hlt:G<=sb/\G<=w.heap.size)(hlen:buf.length+ch.size<=100000)(aj:∀W,jS G w W->qp r bn bi c L W/\qo W/\xm W):
  jV jI 13 #[nz (some ⟨sb,0,none⟩),ny ch] w λe w'=>∃mb lv Lm,e=nE (nD #[lv,ng nH (Bj c (L.map λx=>x.r) mb buf nd fa ch).2.2.2])/\N9 c (L.map λx=>x.r) G r sb mb buf nd fa ch w lv Lm w':=by
 obtain⟨bv,la,tt,se,N,ak⟩:=hs;obtain⟨bo,bc,rfl⟩:=oD.form ak;obtain⟨g,hg⟩:=nT w.heap.size;have aI:=jH (show ze w G sb r (nk bo buf.length bc) buf nd fa la tt se w from⟨N,ak,jT G w,hlt.1,N.lt,hlt.2⟩);have au:=jH aj;have bD:=jH (jU hc aL);have bE:=jH hlen;have c4:=N.cell 4;have c3:=N.cell 3;have f4:=N.free 4;simp only[E5,jO,jN,jM]at c3 c4;clear N ak hlt hlen aj hc aL;by_cases aJ:fa=0
 .have t0:(fa !=0)=false:=by simp[aJ]
  have bu:=jH aJ;have E:=aI.qi 0;go_in;go_upto_region 6 with fail;generalize w.setCell ⟨sb,4,none⟩ (ng nH 0)=w1 at*;have Y:=jH E;clear E c4 c3 f4 aI;have bF:=jH (O7 9223372036854775807 w1);go_wp2_with fail;refine bF.mono ?_;rintro e w2 ⟨rfl,I,U,av⟩;obtain⟨mb,ax⟩:=nT w1.heap.size;rw[ax]at av U I⊢;have bG:=jH (FR mb (MS.new 9223372036854775807) ch.size w2 (MS.Ok.new _ nN) av);have Q:jW (ze w G sb r (nk bo buf.length bc) buf nd fa 0 tt se w2/\mb<w2.heap.size/\G<=mb/\sb<mb/\w.heap.size<=mb/\∀b,(kM bo buf.length bc).ownBlock=some b->b<mb):=jH (by
   have E:=Y.out;have l:=E.lt;have bV:=E.bw.size;refine⟨E.below (ax.symm▸I),U,nK,nK,nK,λb hb=>ax▸(oD.blk E.ob b hb).2⟩)
  clear I U av Y bF;have bS:(ch.size:Int)<=9223372036854775807:=by have:=bE.out;omega
  go_wp2_with fail;refine bG.mono ?_;unfold a2n;rintro e w3 ⟨rfl,aM,V⟩;obtain⟨ay,Z⟩:=nT (((MS.new 9223372036854775807).take ch.size).1);obtain⟨e4,aN⟩:=nT (((MS.new 9223372036854775807).take ch.size).2);rw[Z]at V;rw[aN];have aO:=jH Z;have aP:jW ay.Ok:=jH (Z▸MS.Ok.take (MS.Ok.new _ nN) _);have A:jW (ze w G sb r (nk bo buf.length bc) buf nd fa 0 tt se w3/\IsM w3 mb ay):=jH (by
   obtain⟨bN,a2,a3,a4,a5,a6⟩:=Q.out;exact⟨bN.upd aM a4 (λd hd=>Nat.ne_of_lt (a6 d hd)) a3,V⟩)
  clear Z aN aM V bG;have c1:=A.1.ss.cell 1;simp only[E5,jO,jN,jM]at c1;have bT:=bE.out;have az:=A.1.ob;have aQ:G<=w3.heap.size:=by have:=A.1.lt;have:=A.1.bw.size;omega
  have aR:ch.data.toList.length=ch.size:=kV;have f1:∀w',w3.grownBy w' (kM bo buf.length bc).ownBlock->∃cs,nO w' sb cs K4:=λw' hg=>⟨_,o8 A.1.ss hg A.1.ne⟩
  have bH:=jH f1;clear f1;go_upto_region 9 with(at_builtin;go_loud (refine EM Ch rfl _ _ rfl G (nk bo buf.length bc) buf ch w3 rfl az rfl nK aQ ?_);intro v' w4 E ai;obtain⟨aa,ae,rfl⟩:=oD.form E;have af:=jH (jU E ai);have f1:=(o8 A.1.ss ai A.1.ne).free 1;have bI:=(o8 A.1.ss ai A.1.ne).cell 1;simp only[E5,jO,jN,jM]at bI;clear E ai)
  have J:buf.length+ch.size=(buf++ch.data.toList).length:=by rw[jY,aR]
  rw[J];have bz:=A.1.grow af.2 af.1;have aS:IsM (w4.setCell ⟨sb,1,none⟩ (nk aa (buf++ch.data.toList).length ae)) mb ay:=(o8 A.2 af.2 λd hd=>Nat.ne_of_lt (Q.2.2.2.2.2 d hd)).setOther (a:=⟨sb,1,none⟩) (by show mb≠sb;have:=Q.2.2.2.1;omega) _;generalize w4.setCell ⟨sb,1,none⟩ (nk aa (buf++ch.data.toList).length ae)=w5 at*;obtain⟨bA,I⟩:=nT (buf++ch.data.toList);have bB:bA.length<=100000:=by rw[<-I,<-J];omega
  rw[I]at bz J⊢;have aT:=jH I;have C:=jH (jU bz aS);clear J az aQ aR bH f1 bI c1 A af I bz aS;have aU:∀d,(kM aa bA.length ae).ownBlock=some d->d≠sb/\d≠mb:=λd hd=>⟨C.1.ne d hd,λe=>by
   subst e;rcases C.1.ob.2 with⟨e,_⟩|⟨q,cap,bU,e,_,aA,_⟩
   .rw[e]at hd;cases hd
   .rw[e]at hd;cases hd
    have ai:w5.heap[q]? =some (nG ay.cs 119 (0,0)):=C.2;rw[ai]at aA;have:(119:ko)=wN:=by
     injection aA with e
     injection e
    exact absurd this nN⟩
  have bJ:=jH (a1B G sb r mb bn bi c L ay aa ae bA nd fa 0 tt se w5 bD.1 bD.2 C.1.ss C.1.ob ⟨C.2,aP.out⟩ aU ⟨by have:=Q.2.2.2.1;omega,C.1.lt.1,Q.2.2.1⟩ bB λW bO=>au.out W (C.1.bw.trans bO));clear aU;go_wp2_with fail;refine bJ.mono ?_;rintro e aB hcut;have bK:=bu.out;subst bK;obtain⟨oa,cap,Lm,aV,b6,aW,aX,O,rfl,aC,aY,aD,ag⟩:=a4o hcut aT aO C.1 C.2 Q.2.2.2.2.1 Q.2.2.1;have bP:=jH (V7 mb O aB aY);have aF:=jH (jU aC (jU aD ag));obtain⟨n,hn⟩:=nT Lm.length;have bQ:=jH hn;rw[hn];have aG:=aC.qi O.ta;have a4:=aC.ss.cell 4;have f4:=aC.ss.free 4;have a5:=aG.ss.cell 5;have bR:=aG.ss.free 5;simp only[E5,jO,jN,jM]at a4 a5;clear hcut aC aY aD ag bJ C aT aO aP Q au aG hn;go_wp2_with fail;refine bP.mono ?_;rintro e bW ⟨rfl,rfl⟩;go_upto_region 12 with fail;have bL:jW (∀tv,ze w G sb r aV b6 aW aX O.ta tv se ((aB.setCell ⟨sb,4,none⟩ (ng nH O.ta)).setCell ⟨sb,5,none⟩ (ng nH tv))/\qJ ((aB.setCell ⟨sb,4,none⟩ (ng nH O.ta)).setCell ⟨sb,5,none⟩ (ng nH tv)) (λd=>w.heap.size<=d) (nk oa n cap) Lm):=jH λtv=>by
   have bM:=(aF.1.qi O.ta).a8Y tv;have hl:=bM.lt;refine⟨bM,qJ.keep (bQ.out▸aF.2.1) (by simp[kC]) (λd hd aA=> ?_) λ_ _ h=>h⟩;have aA:w.heap.size<=d:=aA;exact(j6 _ ⟨sb,5,none⟩ _ d (by show d≠sb;omega)).trans (j6 _ ⟨sb,4,none⟩ _ d (by show d≠sb;omega))
  generalize aZ:(aB.setCell ⟨sb,4,none⟩ (ng nH O.ta)).setCell ⟨sb,5,none⟩ _=aK at*;obtain⟨tv,bg⟩:∃tv,(aB.setCell ⟨sb,4,none⟩ (ng nH O.ta)).setCell ⟨sb,5,none⟩ (ng nH tv)=aK:=⟨_,aZ⟩;have bC:=bL.out tv;rw[bg]at bC;have bq:=jH bC;clear bC bL aZ bg a4 f4 a5 bR;refine a1N (w0:=w) (G:=G) (sb:=sb) (r:=r) (bv:=aV) (buf:=b6) (nd:=aW) (fa:=aX) (la:=O.ta) (tt:=tv) (se:=se) (Bs:=λW=>qJ W (λd=>w.heap.size<=d) (nk oa n cap) Lm) (lv:=nk oa n cap) (ht0:=by rfl) (EK:=by rfl) (hsz:=by rfl) (hI0:=λ_=>⟨bq.1.below (oz aK),qJ.keep bq.2 (oz aK).size (λd hd _=>(oz aK).block d hd) λ_ _ h=>h⟩) ?_;intro vs bX hF;have ah:=jH hF;clear hF;simp only[jK,jQ,jR];go_wp2_with fail;try go_returns
  have Jp:=aF.2.2;refine⟨mb,nk oa n cap,Lm,by rw[Jp];rfl,⟨ah.2,by rw[Jp],?_,ah.1.bw⟩⟩;rw[Jp];exact⟨_,_,_,_,ah.1.ss,ah.1.ob⟩
 .have t0:(fa !=0)=true:=by simp[aJ]
  have bu:=jH aJ;have E:=aI.qi 0;go_in;go_upto_region 5 with fail;generalize w.setCell ⟨sb,4,none⟩ (ng nH 0)=w1 at*;have Y:=jH E;clear E c4 c3 f4 aI;refine a4p (w0:=w) (G:=G) (sb:=sb) (r:=r) (bv:=nk bo buf.length bc) (buf:=buf) (nd:=nd) (fa:=fa) (la:=0) (tt:=tt) (se:=se) (Bs:=λ_=>True) (ht0:=by rfl) (hsz:=by rfl) (hI0:=λ_=>⟨Y.below (oz w1),trivial⟩) ?_;intro vs w2 hF;have aH:=jH hF.1;clear hF;simp only[jK,jQ,jR];go_wp2_with fail;try go_returns
  have hp:∀mb,Bj c (L.map λx=>x.r) mb buf nd fa ch=([],buf,nd,fa):=λmb=>by unfold Bj;rw[if_pos bu.out]
  refine⟨0,nk none 0 0,[],by rw[hp];rfl,⟨qJ.nil _ _,by rw[hp];rfl,?_,aH.bw⟩⟩;rw[hp];exact⟨_,_,_,_,aH.ss,aH.ob⟩
end
section
open Go.RowKit Go.Maps
def Aa(c:oK)(A:List xG)(w:jJ)(e:Ending)(w':jJ):Prop:=
 jS w.heap.size w w'/\match vo c A with
 | .error er=>e=nE (nD #[nz none,ng nH er])/\er≠0
 | .ok rows=>∃G sb r bn bi L,e=nE (nD #[nz (some ⟨sb,0,none⟩),ng nH 0])/\(L.map λx:oV=>x.r)=rows/\xI w' G r sb [] 0 0/\(w.heap.size<=G/\G<=sb/\G<=w'.heap.size/\bn≠bi/\r≠bn/\r≠bi)/\∀W,jS G w' W->qp r bn bi c L W
theorem YU{c:oK}{C:List xG}{w w2:jJ}{r bn bi sb:Nat}{L:List oV}(h:vo c C=.ok (L.map λx=>x.r))(hb:jS w.heap.size w w2)(I:qp r bn bi c L w2)(E:bn≠bi/\r≠bn/\r≠bi)(A:w2.heap.size=sb):
  Aa c C w (nE (nD #[nz (some ⟨sb,0,none⟩),ng nH 0])) (w2.alloc (nG #[nz (some ⟨r,0,none⟩),nk none 0 0,ng nH 0,ng nH 0,ng nH 0,ng nH 0,ng nH 0] K4)):=by
 have a:=(jT w2.heap.size w2).alloc (jL _) (nG #[nz (some ⟨r,0,none⟩),nk none 0 0,ng nH 0,ng nH 0,ng nH 0,ng nH 0,ng nH 0] K4);have J:=hb.size;refine⟨hb.trans (a.mono J),?_⟩;rw[h];refine⟨sb,sb,r,bn,bi,L,rfl,rfl,⟨nk none 0 0,0,0,0,A▸nO.new w2 _ _,oD.nil _ _ _⟩,⟨nK,jL _,nQ,E⟩,λW N=> ?_⟩;exact I.below (a.trans (A.symm▸N))
theorem SS(c:oK)(C:List xG)(v:jP)(w:jJ)(ak:IA w v C)(N:∀e,e∈C->e.nm.size<=j5/\e.tx.size<=j5/\e.id<18446744073709551616)(ag:qo w):
  jV jI 27 #[c.v,v] w (Aa c C w):=by
 obtain⟨g,hg⟩:=nT w.heap.size;have O:jW (∀W,w.alloc (nG #[ng nH c.fmt,ng nJ c.mag,ng nH c.pO,ng nH c.qj,ng nH c.dep,ng nH c.oZ] tV)=W->jS w.heap.size w W/\nO W g #[ng nH c.fmt,ng nJ c.mag,ng nH c.pO,ng nH c.qj,ng nH c.dep,ng nH c.oZ] tV/\W.heap.size=g+1):=jH λW J=>by
  subst J;exact⟨(jT w.heap.size w).alloc (jL _) _,hg▸nO.new w _ _,by simp[hg]⟩
 have au:jW (∀W,jS w.heap.size w W->jV jI 52 #[nC #[ng nH c.fmt,ng nJ c.mag,ng nH c.pO,ng nH c.qj,ng nH c.dep,ng nH c.oZ],v] W (AB c C W)):=jH λW J=>a1J c C v W (ak.below J) N (ag.below J ag.lt)
 obtain⟨aB,ah⟩:=nT (Aa c C w);have av:=jH ah;obtain⟨oa,cap,rfl,_⟩:=ak;rw[ah];unfold oK.v oK.cs;clear N ag ah;go_in;go_upto_region 1 with fail;obtain⟨E,Q,U⟩:=O.out _ rfl;generalize w.alloc _=w1 at*;have V:=jH (jU E U);obtain⟨c0,c1,c2,c3,c4,c5⟩:=Q.a6;have Y:=jH (au w1 E);clear O E Q U au;go_wp2_with fail;refine Y.mono ?_;unfold AB;rintro e w2 ⟨Z,ai⟩;have aa:jS w.heap.size w w2:=V.1.trans (Z.mono (by have:=V.2;omega));have ae:=jH aa;obtain⟨aC,I⟩:=nT (vo c C);have af:=jH I;rw[I]at ai;clear Z aa Y I;cases aC with
 |error er=>
  obtain⟨rfl,A⟩:=ai;have aD:((er:Int) !=0)=true:=nQ;have ax:=jH A;clear A;go_wp2_with fail;try go_returns
  rw[<-av.out];exact⟨ae.out,by rw[af.out];exact⟨rfl,ax.out⟩⟩
 |ok rows=>
  obtain⟨r,bn,bi,L,rfl,ay,rfl,A,_⟩:=ai;have az:=jH (jU ay A);clear ay A;obtain⟨sb,aA⟩:=nT w2.heap.size;have aj:=jH (YU af ae az.1 az.2 aA);go_wp2_with fail;try go_returns
  rw[<-av.out];exact aj
theorem Li(G r sb:Nat)(buf:List UInt8)(nd fa:Int)(w:jJ)(h:xI w G r sb buf nd fa):
  jV jI 14 #[nz (some ⟨sb,0,none⟩)] w λe w'=>e=nE (ng nH (buf.length:Nat))/\w'=w:=by
 obtain⟨bv,la,tt,se,A,C⟩:=h;obtain⟨bo,bc,rfl⟩:=oD.form C;have c1:=A.cell 1;simp only[E5,jO,jN,jM]at c1;clear A C;go_in;go_wp2_with fail;go_returns;exact⟨rfl,rfl⟩
end
end Go.Proofs.YtamfcjmhnndbdaaGreatDoor


