/- Part 8 of the proof. -/
import Derived.Test.YtamfcjmhnndbdaaGreatDoorZk00
import Derived.Test.YtamfcjmhnndbdaaGreatDoorZk05
import Derived.Test.YtamfcjmhnndbdaaGreatDoorZk06
import Derived.Test.YtamfcjmhnndbdaaGreatDoorZk07
import Derived.Deep.RegionWith
import Derived.Lib.Strings
import Derived.StillTail
open Go.Value renaming agg→lC,bool→lu,int→lg,pointer→lq,slice→lh,string→ll,tuple→lD
open Go.Obj renaming cells→lG
open Go.IntKind renaming i64→lH,u64→lI
open Go.Ending renaming returned→lF,returned→jP
open Go.Lib renaming hid→iF
open Go.Proofs.Tryz renaming prog→iG
open Go renaming World→iH,Value→iJ,Calls→iU,bodyPost_ret→iV,maxLen→jb,TypeId→jg,undef→jo,results→jr,Program→kg,Oper→kH
open Nat renaming le_refl→iI,le_trans→je,lt_of_lt_of_le→jq,zero_le→jy,lt_or_ge→jG,pow_le_pow_right→jO
open Go.RowKit renaming Below→iK,Hid→iW
open Go.RowKit.Below renaming refl→iL
open List renaming getElem?_cons_succ→iM,getElem?_cons_zero→iO,getElem?_toArray→iP,getElem?_eq_getElem→iZ,mem_of_getElem?→jc,take_succ_cons→ji,length_cons→jm,length_append→jv,getElem?_eq_some_iff→jH,length_drop→jS,all_eq_true→jV,replicate→jY,length_take→ky,mem_cons→kD,mem_range→kF,range→kI,length_eq_zero_iff→kR,size_toArray→kV
open Bool renaming and_eq_true→iY,false_eq_true→j4
open ByteArray renaming size_extract→ja
open Go.World renaming setCell→jf,cell?→kZ
open Array renaming getElem?_eq_some_iff→jk,getElem?_modify→jK,replicate→jQ,getD_eq_getD_getElem?→jR,getElem?_eq_none→kW
open UInt8 renaming ofNat→jl
open Go.Code renaming region→jJ
open Go.Region renaming ready→jW,binds→kG
open Go.Act renaming put→jZ
open Option.some renaming inj→kK
open Go.Instr renaming makeFunc→kL
namespace Go.Proofs.YtamfcjmhnndbdaaGreatDoor
set_option linter.unusedVariables false
set_option linter.unusedSimpArgs false
set_option maxRecDepth 100000
set_option maxHeartbeats 8000000
variable {p:Prop}{a a0:Act}{c:mU}{α:Type}
section
open Go.RowKit Go.Maps
def o5(t:lL TL)(x:lL IL):Int:=if nG t=true/\rO x=true then if oK x t=true then 0 else 12 else 1
theorem D8{t:lL TL}(h:nG t=true):t.all mi=true:=by
 unfold nG at h;simp only[iY]at h;exact h.2
theorem uI{x:lL IL}(h:rO x=true):x.all mO=true/\x.count<=100000:=by
 unfold rO at h;simp only[iY,decide_eq_true_eq]at h;exact⟨h.1.1,lK⟩
theorem D9(t:lL TL)(x:lL IL)(w:iH)(tv iv:iJ)(A:mD w tv t.sub)(C:oZ w iv x.sub)(ax:x.lab.text.length<=jb)(aP:oG w):
  iU iG 157 #[lC #[lg lH t.lab.kind,lg lH t.lab.size,tv,lg lH t.lab.tail],lC #[ll (txt x.lab),lu x.lab.list,iv]] w λe w'=>e=lF (lg lH (o5 t x))/\iK w.heap.size w w':=by
 obtain⟨ot,ct,rfl,_,_⟩:=A.slice;obtain⟨oi,ci,rfl,_,_⟩:=lX.slice C;have bM:∀(fn:Fn)(first cap:Array iJ)(w:iH),(kL fn first cap).run iG w=.ok (.func fn first cap) w:=λ_ _ _ _=>rfl
 obtain⟨R,av⟩:=lV (o5 t x);have aZ:=iF av;rw[av];obtain⟨g,hg⟩:=lV w.heap.size;have bN:=iF A;have bO:=iF C;have aV:iW (∀W,iK w.heap.size w W->oG W):=iF λW h=>aP.below h aP.lt
 have aQ:=iF (λW (h:iK w.heap.size w W)=>zV t W (lh ot t.sub.length ct) (Shape.lY.below A h) (aV.out W h));have aR:=iF (λW (h:iK w.heap.size w W)=>J5 x W (lh oi x.sub.length ci) (Shape.lY.below C h))
 have U:iW (nG t=true->rO x=true->∀W bo bf bm,iK w.heap.size w W->FtE bo bf bm W->iU iG 197 #[lC #[lg lH t.lab.kind,lg lH t.lab.size,lh ot t.sub.length ct,lg lH t.lab.tail],lC #[ll (txt x.lab),lu x.lab.list,lh oi x.sub.length ci],lq (some ⟨bo,0,none⟩),lq (some ⟨bf,0,none⟩)] W
   λe w'=>e=lF (lu (oK x t))/\iK W.heap.size W w'):=iF λbg aW W bo bf bm hb bq=>
  Kc x t W _ _ bo bf bm (Shape.lY.below A hb) (Shape.lY.below C hb) (D8 bg) (uI aW).1 (uI aW).2 ax bq
 have O:=iF (wm (w:=w) t.lab.kind t.lab.size t.lab.tail (lh ot t.sub.length ct) (txt x.lab) x.lab.list (lh oi x.sub.length ci));obtain⟨bu,ay⟩:=lV t.sub.length;obtain⟨bz,az⟩:=lV x.sub.length;rw[ay]at O aQ U⊢;rw[az]at O aR U⊢;obtain⟨bA,aA⟩:=lV t.lab.kind;obtain⟨ts,aB⟩:=lV t.lab.size;obtain⟨tt,aC⟩:=lV t.lab.tail;obtain⟨bB,aD⟩:=lV (txt x.lab);obtain⟨bC,V⟩:=lV x.lab.list;simp only[aA,aB,aC,aD,V]at O aQ aR U⊢;have E:iW (R=if nG t=true/\rO x=true then if oK x t=true then 0 else 12 else 1):=iF av.symm;generalize nG t=bD at*;generalize rO x=bE at*;generalize oK x t=aX at*;clear A C aP ax ay az aA aB aC aD V av aZ;rw[hg]at O⊢;go_in;go_upto_region 1 with fail;obtain⟨aF,⟨t0,Y,Z,t3⟩,⟨aa,ae,af⟩,hsz⟩:=O.out _ rfl;generalize (w.alloc _).alloc _=w1 at*;have aG:=iF aF
 have aS:iW (∀W,iK (g+2) w1 W->(W.cell? ⟨g,0,none⟩=some (lg lH bA)/\W.cell? ⟨g,1,none⟩=some (lg lH ts)/\W.cell? ⟨g,2,none⟩=some (lh ot bu ct)/\W.cell? ⟨g,3,none⟩=some (lg lH tt))/\
   (W.cell? ⟨g+1,0,none⟩=some (ll bB)/\W.cell? ⟨g+1,1,none⟩=some (lu bC)/\W.cell? ⟨g+1,2,none⟩=some (lh oi bz ci))):=iF λW h=>
  have q:∀b i,b<g+2->W.cell? ⟨b,i,none⟩=w1.cell? ⟨b,i,none⟩:=λb i hb=>h.cell (p:=⟨b,i,none⟩) hb
  ⟨⟨(q g 0 lK).trans t0,(q g 1 lK).trans Y,(q g 2 lK).trans Z,(q g 3 lK).trans t3⟩,(q (g+1) 0 lK).trans aa,(q (g+1) 1 lK).trans ae,(q (g+1) 2 lK).trans af⟩
 clear O aF;go_wp2_with fail;refine(aQ.out _ (hg.symm▸aG.out)).mono ?_;rintro e w2 ⟨rfl,ag⟩;have J:iW (iK (g+2) w1 w2):=iF (hsz▸ag);have ah:iW (iK g w w2):=iF (aG.out.trans (ag.mono lK));clear ag t0 Y Z t3 aa ae af;obtain⟨⟨t0,Y,Z,t3⟩,aa,ae,af⟩:=aS.out _ J.out;cases bD with
 |false=>
  have Q:iW (R=1):=iF (by rw[E.out];simp);go_wp2_with fail;go_returns;exact⟨by rw[Q.out];rfl,ah.out⟩
 |true=>
  go_wp2_with fail;refine(aR.out _ (hg.symm▸ah.out)).mono ?_;rintro e w3 ⟨rfl,ai⟩;have aH:iW (iK (g+2) w1 w3):=iF (J.out.trans (ai.mono (by have:=J.out.size;omega)));have aI:iW (iK g w w3):=iF (ah.out.trans (ai.mono (by have:=J.out.size;omega)));clear ai t0 Y Z t3 aa ae af;cases bE with
  |false=>
   have Q:iW (R=1):=iF (by rw[E.out];simp);go_wp2_with fail;go_returns;exact⟨by rw[Q.out];rfl,aI.out⟩
  |true=>
   have Q:iW (R=if aX=true then 0 else 12):=iF (by rw[E.out];simp);have aT:=iF (Ka w3);obtain⟨bm,QI⟩:=lV w3.heap.size;rw[QI]at aT;have bP:g+2<=bm:=by rw[<-QI];have:=aH.out.size;omega
   clear E;go_wp2_with fail;refine aT.out.mono ?_;rintro e w4 ⟨rfl,aJ,N⟩;have aK:iW (∀b4 aU aj,w4.heap.size=b4->w4.alloc (lG #[.map (some bm)] QG)=aU->aU.alloc (lG #[.func (.func 197) #[] #[lq (some ⟨b4,0,none⟩),lq (some ⟨b4+1,0,none⟩)]] 108)=aj->FtE b4 (b4+1) bm aj/\iK (g+2) w1 aj/\iK g w aj):=iF λb4 aU aj bF bG bH=>by
    subst bF bG bH;have bI:=(iL w4.heap.size w4).alloc (iI _) (lG #[.map (some bm)] QG);have a2:=bI.alloc lU (lG #[.func (.func 197) #[] #[lq (some ⟨w4.heap.size,0,none⟩),lq (some ⟨w4.heap.size+1,0,none⟩)]] 108);have n1:=(lN.new w4 #[.map (some bm)] QG).alloc (lG #[.func (.func 197) #[] #[lq (some ⟨w4.heap.size,0,none⟩),lq (some ⟨w4.heap.size+1,0,none⟩)]] 108);have n2:=lN.new (w4.alloc (lG #[.map (some bm)] QG)) #[.func (.func 197) #[] #[lq (some ⟨w4.heap.size,0,none⟩),lq (some ⟨w4.heap.size+1,0,none⟩)]] 108;have bJ:(w4.alloc (lG #[.map (some bm)] QG)).heap.size=w4.heap.size+1:=lU;rw[bJ]at n2;have bQ:bm<=w4.heap.size:=by rw[<-QI];exact N.size
    exact⟨⟨n1,aJ.below a2,n2⟩,(aH.out.trans (N.mono lK)).trans (a2.mono lK),(aI.out.trans (N.mono lK)).trans (a2.mono lK)⟩
   clear aJ N aT;go_upto_region 6 with fail;obtain⟨ak,aL,au⟩:=aK.out w4.heap.size _ _ rfl rfl rfl;generalize (w4.alloc _).alloc _=bK at*;clear aK;have bR:=ak.f.c0;obtain⟨⟨t0,Y,Z,t3⟩,aa,ae,af⟩:=aS.out _ aL;have aY:=iF (U.out trivial trivial bK _ _ _ (hg.symm▸au) ak);have aM:=iF au;clear aS U ak aL au;go_wp2_with fail;refine aY.out.mono ?_;rintro e bL ⟨rfl,aN⟩;have aO:iW (iK g w bL):=iF (aM.out.trans (aN.mono (by have:=aM.out.size;omega)));clear aN aY;cases aX with
   |false=>
    go_wp2_with fail;go_returns;exact⟨by rw[Q.out];rfl,aO.out⟩
   |true=>
    go_wp2_with fail;go_returns;exact⟨by rw[Q.out];rfl,aO.out⟩
end
section
open Go.RowKit
def Zl(x:Option (lL IL))(v:iJ):Array iJ:=match x with
 |none=>#[ll ⟨#[]⟩,lu false,lh none 0 0]
 |some y=>#[ll (txt y.lab),lu y.lab.list,v]
def yJ(R:Except Nat (lL IL))(w:iH)(e:Ending)(w':iH):Prop:=match R with
 | .error er=>e=lF (lD #[lC #[ll ⟨#[]⟩,lu false,lh none 0 0],lg lH (er:Nat)])/\iK w.heap.size w w'
 | .ok x=>∃v,e=lF (lD #[lC #[ll (txt x.lab),lu x.lab.list,v],lg lH 0])/\lX w' (λc=>w.heap.size<=c) v x.sub/\iK w.heap.size w w'
abbrev FnG:jg:=121
structure Ea(g:Nat)(w:iH)(t:TL)(tv:iJ)(s:ByteArray)(deep most:Int)(x:Option (lL IL))(W:iH):Prop where
 t:lN W g #[lg lH t.kind,lg lH t.size,tv,lg lH t.tail] 63
 s:lN W (g+1) #[ll s] 9
 d:lN W (g+2) #[lg lH deep] 3
 m:lN W (g+3) #[lg lH most] 3
 r:lN W (g+4) #[ll ⟨#[]⟩,lu false,lh none 0 0] IT
 o:∃v,lN W (g+5) (Zl x v) IT/\(∀y,x=some y->lX W (λc=>g+7<=c) v y.sub)
 f:lN W (g+6) #[.func (.func 162) #[] #[lq (some ⟨g,0,none⟩)],
  .func (.func 164) #[] #[lq (some ⟨g+1,0,none⟩),lq (some ⟨g+2,0,none⟩),lq (some ⟨g+3,0,none⟩),lq (some ⟨g+5,0,none⟩)],
  .func (.func 166) #[] #[lq (some ⟨g,0,none⟩),lq (some ⟨g+5,0,none⟩)]] FnG
 b:iK g w W
section
variable {g:Nat}{w W W':iH}{t:TL}{tv:iJ}{s:ByteArray}{deep most:Int}{x:Option (lL IL)}
theorem Ea.below(h:Ea g w t tv s deep most x W)(hb:iK W.heap.size W W'):Ea g w t tv s deep most x W':=
 ⟨Below.blk hb h.t h.t.lt,Below.blk hb h.s h.s.lt,Below.blk hb h.d h.d.lt,Below.blk hb h.m h.m.lt,Below.blk hb h.r h.r.lt, (let ⟨v,h1,h2⟩:=h.o;⟨v,Below.blk hb h1 h1.lt,λy A=>Shape.lY.below (h2 y A) hb⟩),Below.blk hb h.f h.f.lt,h.b.trans (hb.mono (by have:=h.t.lt;omega))⟩
end
theorem OH(h:p:=by
 go_wp2_with fail;refine CF.out.mono ?_;rintro e w2 ⟨rfl,hb⟩;have H2:=iF (H.out.below hb);clear hb;go_wp2_with fail;go_returns;exact⟨rfl,H2.out⟩):p:=h
theorem Zm(t:lL TL)(w:iH)(tv:iJ)(A:mD w tv t.sub)(C:oG w)(s:ByteArray)(deep most:Int)(x:Option (lL IL))(W:iH)(h:Ea w.heap.size w t.lab tv s deep most x W):
  iU iG 162 #[lq (some ⟨w.heap.size,0,none⟩)] W λe w'=>e=lF (lg lH (if nG t=true then 0 else 1))/\Ea w.heap.size w t.lab tv s deep most x w':=by
 have CF:=iF (zV t W tv (Shape.lY.below A h.b) (C.below h.b C.lt));have H:=iF h;obtain⟨t0,E,J,t3⟩:=h.t.a4;clear h A C;generalize nG t=R at*;generalize w.heap.size=g at*;go_in;cases R with
 |false=>
  exact OH
 |true=>
  exact OH
def got(R:Except Nat (lL IL)):Option (lL IL):=match R with
 | .error _=>none
 | .ok x=>some x
def Cv(R:Except Nat (lL IL)):Int:=match R with
 | .error er=>(er:Nat)
 | .ok _=>0
theorem OI{g:Nat}{w W:iH}{t:TL}{tv:iJ}{s:ByteArray}{deep most:Int}{C:Option (lL IL)}(h:Ea g w t tv s deep most C W)(x:Option (lL IL))(v:iJ)(J:∀y,x=some y->lX W (λc=>g+7<=c) v y.sub)(a b c:iJ)(he:Zl x v=#[a,b,c]):
  Ea g w t tv s deep most x (((W.setCell ⟨g+5,0,none⟩ a).setCell ⟨g+5,1,none⟩ b).setCell ⟨g+5,2,none⟩ c):=by
 obtain⟨v0,E,Q⟩:=h.o;have o:∀{n:Nat}{cs:Array iJ}{t:jg},lN W n cs t->n≠g+5->lN (((W.setCell ⟨g+5,0,none⟩ a).setCell ⟨g+5,1,none⟩ b).setCell ⟨g+5,2,none⟩ c) n cs t:=λh hn=>
  ((h.setOther (a:=⟨g+5,0,none⟩) hn _).setOther (a:=⟨g+5,1,none⟩) hn _).setOther (a:=⟨g+5,2,none⟩) hn _
 have hk:∃a0 b0 c0,Zl C v0=#[a0,b0,c0]:=by cases C<;>exact⟨_,_,_,rfl⟩
 obtain⟨a0,b0,c0,hk⟩:=hk;rw[hk]at E
 refine⟨o h.t lK,o h.s lK,o h.d lK,o h.m lK,o h.r lK,⟨v,?_,λy N=> ?_⟩,o h.f lK,
  ((h.b.setCell (p:=⟨g+5,0,none⟩) lU _).setCell (p:=⟨g+5,1,none⟩) lU _).setCell (p:=⟨g+5,2,none⟩) lU _⟩
 .rw[he];exact((E.set 0 a).set 1 b).set 2 c
 .exact Shape.lY.keep (J y N) (by simp[jf]) (λA _ hc=>hc) λA _ hc=>by
   have O:g+7<=A:=hc;simp[jf,jK,show g+5≠A by omega,show¬g+5=A by omega]
theorem Zn(t:lL TL)(w:iH)(tv:iJ)(s:ByteArray)(deep most:Int)(R:Except Nat (lL IL))(Q:∀W,iU iG 165 #[ll s,lg lH deep,lg lH most] W (yJ R W))(W:iH)(h:Ea w.heap.size w t.lab tv s deep most none W):
  iU iG 164 #[lq (some ⟨w.heap.size+1,0,none⟩),lq (some ⟨w.heap.size+2,0,none⟩),lq (some ⟨w.heap.size+3,0,none⟩),lq (some ⟨w.heap.size+5,0,none⟩)] W
   λe w'=>e=lF (lg lH (Cv R))/\Ea w.heap.size w t.lab tv s deep most (got R) w':=by
 have A:=iF (Q W);have H:=iF h;have ae:=h.s.c0;have af:=h.d.c0;have ag:=h.m.c0;clear h Q;generalize w.heap.size=g at*;cases R with
 |error er=>
  unfold yJ at A;dsimp only at A;unfold Cv got;dsimp only;go_in;go_wp2_with fail;refine A.out.mono ?_;rintro e w2 ⟨rfl,hb⟩;have C:=iF (H.out.below hb);obtain⟨v0,hB,_⟩:=C.out.o;obtain⟨U,V,Y⟩:=hB.f3;have p0:=hB.cell 0;have E:=hB.cell 1;have J:=hB.cell 2;simp only[Zl,iP,iO,iM]at p0 E J;clear hB hb;go_wp2_with fail;go_returns;exact⟨rfl,OI C.out none (lh none 0 0) (λy N=>by cases N) _ _ _ rfl⟩
 |ok x=>
  unfold yJ at A;dsimp only at A;unfold Cv got;dsimp only;go_in;go_wp2_with fail;refine A.out.mono ?_;rintro e w2 ⟨v,rfl,O,hb⟩;obtain⟨ov,cv,rfl,_,_⟩:=lX.slice O;have C:=iF (H.out.below hb);have Z:iW (lX w2 (λc=>g+7<=c) (lh ov x.sub.length cv) x.sub):=iF (Shape.lY.keep O (iI _) (λc _ hc=>by have:=H.out.f.lt;have aa:W.heap.size<=c:=hc;show g+7<=c;omega) λc _ _=>rfl);obtain⟨v0,hB,_⟩:=C.out.o;obtain⟨U,V,Y⟩:=hB.f3;have p0:=hB.cell 0;have E:=hB.cell 1;have J:=hB.cell 2;simp only[Zl,iP,iO,iM]at p0 E J;clear hB hb O;go_wp2_with fail;go_returns;exact⟨rfl,OI C.out (some x) _ (λy N=>by cases N;exact Z.out) _ _ _ rfl⟩
theorem Zo(t:lL TL)(x:lL IL)(w:iH)(tv:iJ)(A:mD w tv t.sub)(C:x.lab.text.length<=jb)(N:oG w)(s:ByteArray)(deep most:Int)(W:iH)(h:Ea w.heap.size w t.lab tv s deep most (some x) W):
  iU iG 166 #[lq (some ⟨w.heap.size,0,none⟩),lq (some ⟨w.heap.size+5,0,none⟩)] W λe w'=>e=lF (lg lH (o5 t x))/\Ea w.heap.size w t.lab tv s deep most (some x) w':=by
 obtain⟨v,hB,O⟩:=h.o;have J:=O x rfl;have Q:=iF (D9 t x W tv v (Shape.lY.below A h.b) (Shape.lY.keep J (iI _) (λc _ _=>trivial) λc _ _=>rfl) C (N.below h.b N.lt));have H:=iF h;have t0:=h.t.cell 0;have U:=h.t.cell 1;have V:=h.t.cell 2;have t3:=h.t.cell 3;have Y:=hB.cell 0;have Z:=hB.cell 1;have aa:=hB.cell 2;simp only[Zl,iP,iO,iM]at t0 U V t3 Y Z aa;clear h A C N O J hB;generalize o5 t x=E at*;generalize w.heap.size=g at*;go_in;go_wp2_with fail;refine Q.out.mono ?_;rintro e w2 ⟨rfl,hb⟩;have ae:=iF (H.out.below hb);clear hb;go_wp2_with fail;go_returns;exact⟨rfl,ae.out⟩
theorem Zp{w w1 w2 w3 w4 w5 A W:iH}{t:lL TL}{tv:iJ}{s:ByteArray}{deep most:Int}(e1:w.alloc (lG #[lg lH t.lab.kind,lg lH t.lab.size,tv,lg lH t.lab.tail] 63)=w1)(e2:w1.alloc (lG #[ll s] 9)=w2)(e3:w2.alloc (lG #[lg lH deep] 3)=w3)(e4:w3.alloc (lG #[lg lH most] 3)=w4)(e5:w4.alloc (lG #[ll ⟨#[]⟩,lu false,lh none 0 0] IT)=w5)(C:w5.alloc (lG #[ll ⟨#[]⟩,lu false,lh none 0 0] IT)=A)(V:A.alloc (lG #[.func (.func 162) #[] #[lq (some ⟨w.heap.size,0,none⟩)],
  .func (.func 164) #[] #[lq (some ⟨w.heap.size+1,0,none⟩),lq (some ⟨w.heap.size+2,0,none⟩),lq (some ⟨w.heap.size+3,0,none⟩),lq (some ⟨w.heap.size+5,0,none⟩)],
  .func (.func 166) #[] #[lq (some ⟨w.heap.size,0,none⟩),lq (some ⟨w.heap.size+5,0,none⟩)]] FnG)=W):Ea w.heap.size w t.lab tv s deep most none W/\A.heap.size=w.heap.size+6:=by
 have Y:w1.heap.size=w.heap.size+1:=by rw[<-e1];simp
 have Z:w2.heap.size=w.heap.size+2:=by rw[<-e2];simp[Y]
 have z3:w3.heap.size=w.heap.size+3:=by rw[<-e3];simp[Z]
 have z4:w4.heap.size=w.heap.size+4:=by rw[<-e4];simp[z3]
 have z5:w5.heap.size=w.heap.size+5:=by rw[<-e5];simp[z4]
 have aa:A.heap.size=w.heap.size+6:=by rw[<-C];simp[z5]
 have b1:iK w.heap.size w w1:=by rw[<-e1];exact(iL _ _).alloc (iI _) _
 have ag:iK w1.heap.size w1 w2:=by rw[<-e2];exact(iL _ _).alloc (iI _) _
 have b3:iK w2.heap.size w2 w3:=by rw[<-e3];exact(iL _ _).alloc (iI _) _
 have b4:iK w3.heap.size w3 w4:=by rw[<-e4];exact(iL _ _).alloc (iI _) _
 have ah:iK w4.heap.size w4 w5:=by rw[<-e5];exact(iL _ _).alloc (iI _) _
 have b6:iK w5.heap.size w5 A:=by rw[<-C];exact(iL _ _).alloc (iI _) _
 have ae:iK A.heap.size A W:=by rw[<-V];exact(iL _ _).alloc (iI _) _
 have E:=lN.new w #[lg lH t.lab.kind,lg lH t.lab.size,tv,lg lH t.lab.tail] 63;have J:=lN.new w1 #[ll s] 9;have N:=lN.new w2 #[lg lH deep] 3;have O:=lN.new w3 #[lg lH most] 3;have Q:=lN.new w4 #[ll ⟨#[]⟩,lu false,lh none 0 0] IT;have U:=lN.new w5 #[ll ⟨#[]⟩,lu false,lh none 0 0] IT
 have af:=lN.new A #[.func (.func 162) #[] #[lq (some ⟨w.heap.size,0,none⟩)],
  .func (.func 164) #[] #[lq (some ⟨w.heap.size+1,0,none⟩),lq (some ⟨w.heap.size+2,0,none⟩),lq (some ⟨w.heap.size+3,0,none⟩),lq (some ⟨w.heap.size+5,0,none⟩)],
  .func (.func 166) #[] #[lq (some ⟨w.heap.size,0,none⟩),lq (some ⟨w.heap.size+5,0,none⟩)]] FnG
 rw[e1]at E;rw[e2,Y]at J;rw[e3,Z]at N;rw[e4,z3]at O;rw[e5,z4]at Q;rw[C,z5]at U;rw[V,aa]at af;have c6:iK w5.heap.size w5 W:=b6.trans (ae.mono lK);have c5:iK w4.heap.size w4 W:=ah.trans (c6.mono lK);have c4:iK w3.heap.size w3 W:=b4.trans (c5.mono lK);have c3:iK w2.heap.size w2 W:=b3.trans (c4.mono lK);have c2:iK w1.heap.size w1 W:=ag.trans (c3.mono lK);exact⟨⟨Below.blk c2 E E.lt,Below.blk c3 J J.lt,Below.blk c4 N N.lt,Below.blk c5 O O.lt,Below.blk c6 Q Q.lt,⟨lh none 0 0,Below.blk ae U U.lt,λy ai=>by cases ai⟩,af,b1.trans (c2.mono lK)⟩,aa⟩
def nA(w:iH)(g:Nat)(a b c:iJ):iH:=((w.setCell ⟨g,0,none⟩ a).setCell ⟨g,1,none⟩ b).setCell ⟨g,2,none⟩ c
theorem nO(w:iH)(g:Nat)(a b c:iJ):((w.setCell ⟨g,0,none⟩ a).setCell ⟨g,1,none⟩ b).setCell ⟨g,2,none⟩ c=nA w g a b c:=rfl
theorem OJ{g:Nat}{w W:iH}{t:TL}{tv:iJ}{s:ByteArray}{deep most:Int}{x:Option (lL IL)}(h:Ea g w t tv s deep most x W)(a b c:iJ):
  lN (nA W (g+4) a b c) (g+4) #[a,b,c] IT/\iK g w (nA W (g+4) a b c)/\∀v (y:lL IL),lX W (λc=>g+7<=c) v y.sub->lX (nA W (g+4) a b c) (λc=>g<=c) v y.sub:=by
 refine⟨((h.r.set 0 a).set 1 b).set 2 c,((h.b.setCell (p:=⟨g+4,0,none⟩) lU _).setCell (p:=⟨g+4,1,none⟩) lU _).setCell (p:=⟨g+4,2,none⟩) lU _,λv y E=> ?_⟩;exact Shape.lY.keep E (by simp[nA,jf]) (λA _ hc=>by have C:g+7<=A:=hc;show g<=A;omega) λA _ hc=>by
   have C:g+7<=A:=hc;simp[nA,jf,jK,show g+4≠A by omega,show¬g+4=A by omega]
def xN(t:lL TL)(R:Except Nat (lL IL)):Except Nat (lL IL):=if nG t=true then match R with
 | .error er=> .error er
 | .ok x=>if o5 t x=0 then .ok x else .error (o5 t x).toNat
 else .error 1
def WS(t:lL TL)(R:Except Nat (lL IL)):Int:=match R with
 | .error _=>0
 | .ok x=>o5 t x
theorem zY(t:lL TL)(x:lL IL):0<=o5 t x:=by
 unfold o5;split;.split<;>omega
 .omega
theorem Ke(t:lL TL)(R:Except Nat (lL IL))(N:∀er,R=.error er->1<=er)(E:Int)(A:E=(if(if nG t=true then(0:Int)else 1)≠0 then(if nG t=true then 0 else 1)else if Cv R≠0 then Cv R else WS t R)):
  (∃er:Nat,E=er/\E≠0/\xN t R=.error er)\/(∃x,E=0/\R=.ok x/\xN t R=.ok x/\(if(if nG t=true then(0:Int)else 1)≠0 then 1 else if Cv R≠0 then 2 else 3)=3):=by
 unfold xN;by_cases J:nG t=true
 .simp only[J,if_true]at A⊢
  rw[if_neg lM]at A;cases R with
  |error er=>
   have Q:=N er rfl;have C:Cv (.error er:Except Nat (lL IL))=(er:Int):=rfl;rw[C,if_pos lK]at A;exact .inl ⟨er,A,lK,rfl⟩
  |ok x=>
   have C:Cv (.ok x:Except Nat (lL IL))=0:=rfl;have O:WS t (.ok x)=o5 t x:=rfl;have U:=zY t x;rw[C,O,if_neg lM]at A;by_cases h0:o5 t x=0
   .refine .inr ⟨x,lK,rfl,?_,?_⟩
    .simp only[h0,if_true]
    .rw[C];rfl
   .refine .inl ⟨(o5 t x).toNat,lK,lK,?_⟩
    simp only[h0,if_false]
 .simp only[J]at A⊢
  exact .inl ⟨1,by rw[A];rfl,by rw[A];simp,rfl⟩
theorem TA(t:lL TL)(R:Except Nat (lL IL))(ae:∀er,R=.error er->1<=er)(w:iH)(tv:iJ)(N:mD w tv t.sub)(Z:∀x,R=.ok x->x.lab.text.length<=jb)(af:oG w)(s:ByteArray)(deep most:Int)(av:∀W,iU iG 165 #[ll s,lg lH deep,lg lH most] W (yJ R W)):
  iU iG 117 #[lC #[lg lH t.lab.kind,lg lH t.lab.size,tv,lg lH t.lab.tail],ll s,lg lH deep,lg lH most] w (yJ (xN t R) w):=by
 have aT:∀(fn:Fn)(first cap:Array iJ)(w:iH),(kL fn first cap).run iG w=.ok (.func fn first cap) w:=λ_ _ _ _=>rfl
 have ax:iW (∀J W,((((((w.alloc (lG #[lg lH t.lab.kind,lg lH t.lab.size,tv,lg lH t.lab.tail] 63)).alloc (lG #[ll s] 9)).alloc (lG #[lg lH deep] 3)).alloc (lG #[lg lH most] 3)).alloc (lG #[ll ⟨#[]⟩,lu false,lh none 0 0] IT)).alloc (lG #[ll ⟨#[]⟩,lu false,lh none 0 0] IT))=J->J.alloc (lG #[.func (.func 162) #[] #[lq (some ⟨w.heap.size,0,none⟩)],
  .func (.func 164) #[] #[lq (some ⟨w.heap.size+1,0,none⟩),lq (some ⟨w.heap.size+2,0,none⟩),lq (some ⟨w.heap.size+3,0,none⟩),lq (some ⟨w.heap.size+5,0,none⟩)],
  .func (.func 166) #[] #[lq (some ⟨w.heap.size,0,none⟩),lq (some ⟨w.heap.size+5,0,none⟩)]] FnG)=W->J.heap.size=w.heap.size+6/\iU iG 155 #[lh (some ⟨J.heap.size,0,none⟩) 3 3] W λe ag=>∃E:Int,e=lF (lg lH E)/\
   ((∃er:Nat,E=er/\E≠0/\xN t R=.error er/\∃q,Ea w.heap.size w t.lab tv s deep most q ag)\/(∃x,E=0/\xN t R=.ok x/\Ea w.heap.size w t.lab tv s deep most (some x) ag))):=iF λJ W aH aI=>by
  obtain⟨hI,Q⟩:=Zp (t:=t) (tv:=tv) (s:=s) (deep:=deep) (most:=most) rfl rfl rfl rfl rfl aH aI;refine⟨Q,?_⟩;rw[Q];obtain⟨C,ay,az,aA,aB⟩:∃C:Nat->Option (lL IL),C 0=none/\C 1=none/\C 2=got R/\C 3=got R:=⟨λk=>if k<2 then none else got R,if_pos lM,if_pos lM,if_neg lM,if_neg lM⟩;have aJ:∀W,Ea w.heap.size w t.lab tv s deep most (C 0) W->iU iG 162 #[lq (some ⟨w.heap.size,0,none⟩)] W λe w'=>e=lF (lg lH (if nG t=true then 0 else 1))/\Ea w.heap.size w t.lab tv s deep most (C 1) w':=λW h=>by
   rw[ay]at h;rw[az];exact Zm t w tv N af s deep most _ W h
  have aK:∀W,Ea w.heap.size w t.lab tv s deep most (C 1) W->iU iG 164 #[lq (some ⟨w.heap.size+1,0,none⟩),lq (some ⟨w.heap.size+2,0,none⟩),lq (some ⟨w.heap.size+3,0,none⟩),lq (some ⟨w.heap.size+5,0,none⟩)] W λe w'=>e=lF (lg lH (Cv R))/\Ea w.heap.size w t.lab tv s deep most (C 2) w':=λW h=>by
   rw[az]at h;rw[aA];exact Zn t w tv s deep most R av W h
  have aL:Cv R=0->∀W,Ea w.heap.size w t.lab tv s deep most (C 2) W->iU iG 166 #[lq (some ⟨w.heap.size,0,none⟩),lq (some ⟨w.heap.size+5,0,none⟩)] W λe w'=>e=lF (lg lH (WS t R))/\Ea w.heap.size w t.lab tv s deep most (C 3) w':=λhg W h=>by
   rw[aA]at h;rw[aB];cases R with
   |error er=>have U:=ae er rfl;have V:Cv (.error er:Except Nat (lL IL))=(er:Int):=rfl;omega
   |ok x=>exact Zo t x w tv N (Z x rfl) af s deep most W h
  rw[<-ay]at hI;refine(J4 W _ _ _ (w.heap.size+6) FnG (if nG t=true then 0 else 1) (Cv R) (WS t R) (λk W=>Ea w.heap.size w t.lab tv s deep most (C k) W) (λk W h=>Ea.f h) hI aJ (λ_=>aK) (λ_ h=>aL h)).mono ?_;rintro e ag ⟨rfl,A⟩;refine⟨_,rfl,?_⟩;rcases Ke t R ae _ rfl with⟨er,U,V,ah⟩|⟨x,U,V,ah,aM⟩
  .exact .inl ⟨er,U,V,ah,_,A⟩
  .rw[aM,aB,V]at A
   exact .inr ⟨x,U,ah,A⟩
 obtain⟨ot,ct,rfl,_,_⟩:=N.slice;generalize xN t R=aU at*;clear ae N Z af av;go_in;go_upto_region 2 with fail;generalize aa:World.alloc (World.alloc _ _) _=J;obtain⟨Q,hcall⟩:=ax.out J _ aa rfl;rw[Q]at hcall;have ai:=iF hcall;clear hcall ax aa;rw[show w.heap.size+1+1+1+1+1=w.heap.size+5 from rfl,show w.heap.size+1+1+1+1=w.heap.size+4 from rfl,show w.heap.size+1+1+1=w.heap.size+3 from rfl,show w.heap.size+1+1=w.heap.size+2 from rfl];go_wp2_with fail;refine ai.out.mono ?_;rintro e aV ⟨E,rfl,⟨er,rfl,he,rfl,q,A⟩|⟨x,rfl,rfl,A⟩⟩
 .have aW:((er:Int) !=0)=true:=by simpa using he
  have H:=iF A;have z0:=A.r.free 0;have aN:=A.r.free 1;have aO:=A.r.free 2;have aC:=A.r.c0;have aD:=A.r.c1;have aF:=A.r.c2;clear A he ai;go_wp2_with fail;rw[nO];obtain⟨hB,hb,_⟩:=OJ H.out (ll ⟨#[]⟩) (lu false) (lh none 0 0);obtain⟨aj,ak,au⟩:=hB.a3;refine iV (v:=lD #[lC #[ll ⟨#[]⟩,lu false,lh none 0 0],lg lH (er:Nat)]) (by simp[jr,Tryz.results117,go_sem,aj,ak,au]) rfl ⟨rfl,hb⟩
 .have H:=iF A
  obtain⟨v,Y,aG⟩:=A.o;have O:=aG x rfl;obtain⟨ov,cv,rfl,_,_⟩:=lX.slice O;have aP:=iF O;obtain⟨z0,aN,aO⟩:=A.r.f3;have aC:=A.r.cell 0;have aD:=A.r.cell 1;have aF:=A.r.cell 2;have aQ:=Y.cell 0;have aR:=Y.cell 1;have aS:=Y.cell 2;simp only[Zl,iP,iO,iM]at aC aD aF aQ aR aS;clear A Y aG O ai;go_wp2_with fail;rw[nO];obtain⟨hB,hb,hk⟩:=OJ H.out (ll (txt x.lab)) (lu x.lab.list) (lh ov x.sub.length cv);obtain⟨aj,ak,au⟩:=hB.a3;refine iV (v:=lD #[lC #[ll (txt x.lab),lu x.lab.list,lh ov x.sub.length cv],lg lH 0]) (by simp[jr,Tryz.results117,go_sem,aj,ak,au]) rfl ⟨_,rfl,hk _ _ aP.out,hb⟩
end
section
def tQ(n:Nat):Nat:=if n<253 then n else if n<65536 then 253 else if n<4294967296 then 254 else 255
def nH(b:Nat):Nat:=if b<253 then 0 else if b=253 then 2 else if b=254 then 4 else 8
def WT(n:Nat):List UInt8:=jl (tQ n)::CJ (nH (tQ n)) n
def pq:List UInt8->Nat×Nat×Nat
 |[]=>(0,0,2)
 |b::r=>if b.toNat<253 then(b.toNat,1,0)else
  if r.length<nH b.toNat then(0,0,2)else
  if tQ (nT (r.take (nH b.toNat)))≠b.toNat then(0,0,3)else(nT (r.take (nH b.toNat)),1+nH b.toNat,0)
theorem zt(b:Nat):nH b<=8:=by unfold nH;(repeat' split)<;>omega
theorem Kg(n:Nat)(h:n<253):tQ n=n:=by unfold tQ;rw[if_pos h]
theorem MQ(n:Nat)(h:n<253):nH n=0:=by unfold nH;rw[if_pos h]
theorem WU(n:Nat)(h:n<253):WT n=[jl n]:=by unfold WT;rw[Kg n h,MQ n h];rfl
theorem TB{l:List UInt8}{N K:Nat}(h:pq l=(N,K,0)):K<=l.length/\N<18446744073709551616/\WT N=l.take K/\K<=9:=by
 cases l with
 |nil=>simp[pq]at h
 |cons b r=>
  rw[pq]at h;have hb:=b.toNat_lt;split at h
  .rename_i c
   simp only[Prod.mk.injEq,and_true]at h;obtain⟨rfl,rfl⟩:=h;refine⟨lU,lK,?_,lK⟩;rw[WU _ c];simp
  .split at h
   .simp at h
   .split at h
    .simp at h
    .rename_i c1 c2 c3
     simp only[Prod.mk.injEq,and_true]at h;obtain⟨rfl,rfl⟩:=h;have hl:(r.take (nH b.toNat)).length=nH b.toNat:=by rw[ky];omega
     have A:=qH (r.take (nH b.toNat));have C:=zt b.toNat;rw[hl]at A;have E:tQ (nT (r.take (nH b.toNat)))=b.toNat:=by simpa using c3
     refine⟨lW,jq A (je (jO lM C) lM),?_,lK⟩;have e:=Jj (r.take (nH b.toNat));rw[hl]at e;unfold WT;rw[E,e,u8e (b:=b) rfl,Nat.add_comm 1,ji]
theorem MR(l:List UInt8):pq (l.take 9)=pq l:=by
 cases l with
 |nil=>rfl
 |cons b r=>
  have C:=zt b.toNat;rw[ji,pq,pq,List.take_take,Nat.min_eq_left C,ky];by_cases A:r.length<nH b.toNat;.rw[if_pos (show min 8 r.length<_ by omega),if_pos A]
  .rw[if_neg (show¬min 8 r.length<_ by omega),if_neg A]
end
section
open Go.RowKit
def n3(t:Nat×Nat×Nat):iJ:=lD #[lg lI t.1,lg lH t.2.1,lg lH t.2.2]
structure yK(w:iH):Prop where
 a:w.cell? ⟨0,0,none⟩=some (lg lH 2)
 b:w.cell? ⟨0,1,none⟩=some (lg lH 4)
 c:w.cell? ⟨0,2,none⟩=some (lg lH 8)
theorem yK.at_{w:iH}(h:yK w)(b:Nat)(A:253<=b)(C:b<256):w.cell? ⟨0,b - 253,none⟩=some (lg lH (nH b)):=by
 rcases(show b=253\/b=254\/b=255 by omega)with rfl|rfl|rfl
 .exact h.a
 .exact h.b
 .exact h.c
theorem yK.below{w w':iH}{B:Nat}(h:yK w)(hb:iK B w w')(hB:0<B):yK w':=
 ⟨(hb.cell (p:=⟨_,0,none⟩) hB).trans h.a,(hb.cell (p:=⟨_,1,none⟩) hB).trans h.b,(hb.cell (p:=⟨_,2,none⟩) hB).trans h.c⟩
theorem yK.lt{w:iH}(h:yK w):0<w.heap.size:=by
 rcases jG 0 w.heap.size with A|A
 .exact A
 .have:=h.a
  simp[kZ,kW A]at this
theorem MU(n:Nat)(w:iH)(hn:n<18446744073709551616):
  iU iG 245 #[lg lI n] w λe w'=>e=lF (lg .u8 (tQ n))/\w=w':=by
 by_cases A:n<253
 .have e:=iF (Kg n A)
  go_in;go_wp2_with fail;go_returns;exact⟨by rw[e.out];exact congrArg jP (congrArg (Value.int .u8) lK),rfl⟩
 .have J:decide ((n:Int)<253)=false:=lW
  by_cases C:n<65536
  .have e:iW (tQ n=253):=by unfold iW tQ;rw[if_neg A,if_pos C]
   have g2:decide ((n:Int)<65536)=true:=lW;clear A C hn;go_in;exact vz
  .have g2:decide ((n:Int)<65536)=false:=lW
   by_cases E:n<4294967296
   .have e:iW (tQ n=254):=by unfold iW tQ;rw[if_neg A,if_neg C,if_pos E]
    have g3:decide ((n:Int)<4294967296)=true:=lW;clear A C E hn;go_in;exact vz
   .have g3:decide ((n:Int)<4294967296)=false:=lW
    have e:iW (tQ n=255):=by unfold iW tQ;rw[if_neg A,if_neg C,if_neg E]
    clear A C E hn;go_in;exact vz
theorem toList_cons(s:ByteArray)(h:0<s.size):s.data.toList=s[0]::s.data.toList.drop 1:=by
 exact OG
theorem Eb(s:ByteArray)(k:Nat):(s.extract 1 (1+k)).data.toList=(s.data.toList.drop 1).take k:=by
 rw[Lib.extract_data,show 1+k - 1=k by omega]
theorem MV(s:ByteArray)(h:0<s.size):s.toList.isEmpty=false:=by
 rw[Lib.toList_data,toList_cons s h];rfl
theorem TC(s:ByteArray)(h:0<s.size)(A:s[0].toNat<253):pq s.data.toList=(s[0].toNat,1,0):=by
 rw[toList_cons s h,pq,if_pos A]
theorem TD(s:ByteArray)(h:0<s.size)(A:253<=s[0].toNat)(C:s.size<1+nH s[0].toNat):pq s.data.toList=(0,0,2):=by
 rw[toList_cons s h,pq,if_neg lK,if_pos (by rw[jS];simp;omega)]
theorem TE(s:ByteArray)(h:0<s.size)(C:253<=s[0].toNat)(E:1+nH s[0].toNat<=s.size)(A:tQ (nT (s.extract 1 (1+nH s[0].toNat)).data.toList)≠s[0].toNat):pq s.data.toList=(0,0,3):=by
 rw[Eb]at A;rw[toList_cons s h,pq,if_neg lK,if_neg (by rw[jS];simp;omega),if_pos A]
theorem TF(s:ByteArray)(h:0<s.size)(C:253<=s[0].toNat)(E:1+nH s[0].toNat<=s.size)(A:tQ (nT (s.extract 1 (1+nH s[0].toNat)).data.toList)=s[0].toNat):pq s.data.toList=(nT (s.extract 1 (1+nH s[0].toNat)).data.toList,1+nH s[0].toNat,0):=by
 rw[Eb]at A⊢;rw[toList_cons s h];show pq (s[0]::s.data.toList.drop 1)=_;rw[pq,if_neg lK,if_neg (by rw[jS];simp;omega),if_neg (λh=>h A)];rfl
theorem QJ(s:ByteArray)(w:iH)(hs:s.size<=jb)(J:yK w):
  iU iG 246 #[ll s] w λe w'=>e=lF (n3 (pq s.data.toList))/\w=w':=by
 unfold jb at hs;by_cases h0:s.size=0
 .have e:s=⟨#[]⟩:=Hm (kR.1 (by simpa using h0))
  subst e;exact vU
 .have hp:0<s.size:=lK
  have Y:=MV s hp;clear h0;have hb:s[0].toNat<=255:=by have:=s[0].toNat_lt;omega
  by_cases N:s[0].toNat<253
  .have e:=iF (TC s hp N)
   go_in;exact vz
  .have A:253<=s[0].toNat:=lK
   have Z:=yK.at_ J s[0].toNat A lK;have hk:=zt s[0].toNat;have aa:1<=nH s[0].toNat:=by unfold nH;rw[if_neg lK];(repeat' split)<;>omega
   have e1:=iF (TD s hp A);have e2:=iF (TE s hp A);have e3:=iF (TF s hp A);generalize nH s[0].toNat=k at*;have ae:(0:Int)<=(s[0].toNat:Int) - 253:=lK;have af:(s[0].toNat:Int) - 253<3:=lK;have hd2:decide ((s[0].toNat:Int)<253)=false:=lW;clear N J;by_cases E:s.size<1+k
   .have e:=iF (e1.out E)
    go_in;exact vz
   .have g2:1+k<=s.size:=lK
    have O:(s.extract 1 (1+k)).size=k:=by rw[ja];omega
    have c1:=λw=>qC (s.extract 1 (1+k)) w lK lK
    have hn:nT (s.extract 1 (1+k)).data.toList<18446744073709551616:=by
     have h:=qH (s.extract 1 (1+k)).data.toList;have hl:(s.extract 1 (1+k)).data.toList.length=k:=by rw[<-Lib.size_eq];exact O
     rw[hl]at h;exact jq h (zI k hk)
    have c2:=λw=>MU _ w hn
    generalize nT (s.extract 1 (1+k)).data.toList=n at*;have Q:=iF c1;have U:=iF c2;clear c1 c2 O;generalize tQ n=hd at*;by_cases C:hd=s[0].toNat
    .have e:=iF (e3.out g2 C)
     have V:((hd:Int) !=(s[0].toNat:Int))=false:=by rw[bne_eq_false_iff_eq];omega
     clear E C e1 e2 e3;go_in;go_wp2_with fail;refine(Q.out _).mono ?_;rintro e w' ⟨rfl,rfl⟩;go_wp2_with fail;refine(U.out _).mono ?_;rintro e w' ⟨rfl,rfl⟩;exact vz
    .have e:=iF (e2.out g2 C)
     have V:((hd:Int) !=(s[0].toNat:Int))=true:=EY;clear E C e1 e2 e3;go_in;go_wp2_with fail;refine(Q.out _).mono ?_;rintro e w' ⟨rfl,rfl⟩;go_wp2_with fail;refine(U.out _).mono ?_;rintro e w' ⟨rfl,rfl⟩;exact vz
def Hr(t:Nat×Nat×Nat)(most:Nat):Nat:=if t.2.2=0/\most<t.1 then 5 else t.2.2
def RS.comp(r:RS)(most:Nat):RS×Nat:=
 if r.f=0 then
  (λt:Nat×Nat×Nat=>if Hr t most=0 then((⟨r.t,r.p+t.2.1,0⟩:RS),t.1)else(⟨r.t,r.p,Hr t most⟩,0)) (pq (r.t.data.toList.drop r.p))
 else(r,0)
theorem zZ{t:ByteArray}{p n k:Nat}(h:pq (t.data.toList.drop p)=(n,k,0))(hp:p<=t.size):p+k<=t.size:=by
 have A:=(TB h).1;rw[jS]at A;have:t.data.toList.length=t.size:=lU;omega
theorem RS.Ok.comp{r:RS}(h:r.Ok)(most:Nat):(r.comp most).1.Ok:=by
 obtain⟨A,C⟩:=h;unfold RS.comp;split
 .generalize ht:pq (r.t.data.toList.drop r.p)=t
  obtain⟨n,k,e⟩:=t;simp only[];split
  .rename_i J he
   have E:e=0:=by unfold Hr at he;simp only at he;split at he<;>omega
   subst E;exact⟨zZ ht A,C⟩
  .exact⟨A,C⟩
 .exact⟨A,C⟩
theorem MW(r:RS)(most:Nat):(r.comp most).1.t=r.t:=by
 unfold RS.comp;split
 .generalize pq (r.t.data.toList.drop r.p)=t
  simp only[];split<;>rfl
 .rfl
theorem OL(h:p:=by
 have key:∀i,w'.cell? ⟨0,i,none⟩=w.cell? ⟨0,i,none⟩:=λi=>by simp only[kZ,hb]
 exact⟨(key 0).trans h.a,(key 1).trans h.b,(key 2).trans h.c⟩):p:=h
theorem yK.upd{w w':iH}{b:Nat}(h:yK w)(u:ng b w w')(A:0≠b):yK w':=by
 have hb:=u.block 0 h.lt (by simpa using A);exact OL
theorem MX(h:p:=by
 go_in;go_wp2_with fail;refine cf.out.mono ?_;rintro e w' ⟨rfl,rfl⟩;simp only[];go_wp2_with fail;refine ca.out.mono ?_;rintro e w2 ⟨rfl,u2,hb2⟩;have hT2:=iF (HT.out.upd u2 hG);go_wp2_with fail;refine(CN.out _ hT2.out).mono ?_;rintro e w' ⟨rfl,rfl⟩;go_wp2_with fail;refine(CX.out _ hb2).mono ?_;rintro e w3 ⟨rfl,u3,hb3⟩;go_wp2_with fail;go_returns;exact⟨rfl,u2.trans u3,hb3⟩):p:=h
theorem QK(b:Nat)(r:RS)(most:Nat)(w:iH)(Z:r.Ok)(hb:tT w b r)(aj:most<18446744073709551616)(E:yK w)(hG:0≠b):
  iU iG 210 #[lq (some ⟨b,0,none⟩),lg lI most] w (wZ b w (r.comp most).1 (lg lI (r.comp most).2)):=by
 obtain⟨t,p,f⟩:=r;obtain⟨N,Q⟩:=Z;simp only at N Q;have cf:=iF (nR b ⟨t,p,f⟩ w hb);have HT:=iF E;clear E;by_cases O:f=0
 .subst O
  have ca:=iF (GH b ⟨t,p,0⟩ 9 w ⟨N,Q⟩ hb);have V:RS.ahead ⟨t,p,0⟩ 9=t.extract p (p+min 9 (t.size - p)):=by unfold RS.ahead;rw[if_pos rfl,if_pos lM];rfl
  have U:=λw E=>QJ (t.extract p (p+min 9 (t.size - p))) w (by unfold jb;rw[ja];omega) E
  have en:pq (t.extract p (p+min 9 (t.size - p))).data.toList=pq (t.data.toList.drop p):=by
   rw[Lib.extract_data,<-MR (t.data.toList.drop p)];congr 1;rw[show p+min 9 (t.size - p) - p=min 9 (t.size - p)by omega];by_cases Y:9<=t.size - p;.rw[Nat.min_eq_left Y]
   .have hl:(t.data.toList.drop p).length<=t.size - p:=by rw[jS];simp
    rw[Nat.min_eq_right lK,List.take_of_length_le hl,List.take_of_length_le lK]
  rw[en]at U;rw[V]at ca;generalize t.extract p (p+min 9 (t.size - p))=x at*;have A:∀T,pq (t.data.toList.drop p)=T->RS.comp ⟨t,p,0⟩ most=if Hr T most=0 then((⟨t,p+T.2.1,0⟩:RS),T.1)else(⟨t,p,Hr T most⟩,0):=by
   intro T E;unfold RS.comp;rw[if_pos rfl,E]
  have hsz:=λn k (h:pq (t.data.toList.drop p)=(n,k,0))=>zZ h N
  generalize pq (t.data.toList.drop p)=T at*;have A:=A T rfl;obtain⟨n,k,e⟩:=T;clear V en;have CN:iW (∀w,yK w->iU iG 246 #[ll x] w λaa w'=>aa=lF (lD #[lg lI n,lg lH k,lg lH e])/\w=w'):=U;clear U;by_cases he:e=0
  .subst he
   have af:=hsz n k rfl;clear hsz;by_cases J:most<n
   .have e5:Hr (n,k,0) most=5:=if_pos ⟨rfl,J⟩
    rw[e5,if_neg lM]at A;rw[A];have C:=λw h=>qX b ⟨t,p,0⟩ 5 w h
    rw[show RS.fail ⟨t,p,0⟩ 5=⟨t,p,5⟩from rfl]at C;have CX:=iF C;clear C A e5;exact MX
   .have e5:Hr (n,k,0) most=0:=if_neg (λh=>J h.2)
    rw[e5,if_pos rfl]at A;rw[A];have ae:decide (most<n)=false:=lW;have C:=λw h=>nU b ⟨t,p,0⟩ k w ⟨N,Q⟩ h
    rw[show RS.take ⟨t,p,0⟩ k=(⟨t,p+k,0⟩,t.extract p (p+k))from by unfold RS.take;rw[if_pos rfl,if_neg lK,if_neg (by simp only[];omega)];rfl]at C;have CX:=iF C;clear C A e5 J;exact MX
  .have e5:Hr (n,k,e) most=e:=if_neg (λh=>he h.1)
   rw[e5,if_neg he]at A;rw[A];have ag:((e:Int)==0)=false:=sQ;have ah:((e:Int) !=0)=true:=EY;have C:=λw h=>qX b ⟨t,p,0⟩ e w h
   rw[show RS.fail ⟨t,p,0⟩ e=⟨t,p,e⟩from rfl]at C;have CX:=iF C;clear C A e5 he;exact MX
 .have e:RS.comp ⟨t,p,f⟩ most=(⟨t,p,f⟩,0):=by unfold RS.comp;rw[if_neg O]
  rw[e];have ai:((f:Int) !=0)=true:=by rw[bne_iff_ne];exact O
  clear e O;go_in;go_wp2_with fail;refine cf.out.mono ?_;rintro e w' ⟨rfl,rfl⟩;simp only[];go_wp2_with fail;go_returns;exact⟨rfl,ng.refl b w,hb⟩
def sZ(b:ByteArray):lL IL:=.node ⟨b.data.toList,false⟩ []
def z8(b:ByteArray):Nat:=if 1<=b.size/\b.size<=8 then nT b.data.toList else 0
def Aa(n:Nat):lL IL:=.node ⟨(zH n).reverse,false⟩ []
def qy(s:List (lL IL)):lL IL:=.node ⟨[],true⟩ s
abbrev WV:=lL IL×RS×Nat
def nE(f:lL TL->RS->Nat->WV):List (lL TL×Bool)->RS->Nat->List (lL IL)×RS×Nat
 |[],r,l=>([],r,l)
 |t::ts,r,l=>if(t.2=true\/r.p<r.t.size)/\r.f=0 then
   ((f t.1 r l).1::(nE f ts (f t.1 r l).2.1 (f t.1 r l).2.2).1,(nE f ts (f t.1 r l).2.1 (f t.1 r l).2.2).2)else([],r,l)
def rZ(s:List (lL TL))(tail:Int):List (lL TL×Bool):=s.mapIdx λi t=>(t,decide ((i:Int)<s.length - tail))
def nC:Nat->lL TL->RS->Nat->WV
 |0,_,r,l=>(sZ ⟨#[]⟩,r.fail 4,l)
 |d+1,.node a s,r,l=>
  if l=0 then(sZ ⟨#[]⟩,r.fail 4,0)
  else if a.kind=1 then(Aa (z8 (r.take a.size).2),(r.take a.size).1,l - 1)
  else if a.kind=2 then(sZ (r.take a.size).2,(r.take a.size).1,l - 1)
  else if a.kind=3 then(sZ ((r.comp a.size.toNat).1.take (r.comp a.size.toNat).2).2,((r.comp a.size.toNat).1.take (r.comp a.size.toNat).2).1,l - 1)
  else if a.kind=4 then match s with
   |t::_=>(qy (nE (nC d) (jY (r.comp a.size.toNat).2 (t,true)) (r.comp a.size.toNat).1 (l - 1)).1,(nE (nC d) (jY (r.comp a.size.toNat).2 (t,true)) (r.comp a.size.toNat).1 (l - 1)).2)
   |[]=>(sZ ⟨#[]⟩,r.fail 4,l)
  else(qy (nE (nC d) (rZ s a.tail) r (l - 1)).1,(nE (nC d) (rZ s a.tail) r (l - 1)).2)
structure MZ(r r':RS):Prop where
 t:r'.t=r.t
 f:r'.f=0->r.f=0
 ok:r.Ok->r'.Ok
theorem MZ.refl(r:RS):MZ r r:=⟨rfl,id,id⟩
theorem MZ.trans{a b c:RS}(h:MZ a b)(k:MZ b c):MZ a c:=⟨k.t.trans h.t,λA=>h.f (k.f A),λho=>k.ok (h.ok ho)⟩
theorem Ab(r:RS)(x:Int):MZ r (r.fail x):=by
 refine⟨?_,?_,λh=>h.fail x⟩;.unfold RS.fail;split<;>rfl
 .intro h;unfold RS.fail at h;split at h<;>assumption
theorem uJ(r:RS)(n:Int):MZ r (r.take n).1:=by
 refine⟨?_,?_,λh=>h.take n⟩;.unfold RS.take;(repeat' split)<;>rfl
 .intro h
  unfold RS.take at h;split at h<;>assumption
theorem Kh(r:RS)(n:Nat):MZ r (r.comp n).1:=by
 refine⟨MW r n,?_,λh=>h.comp n⟩;intro h;unfold RS.comp at h;split at h<;>assumption
theorem Bl{r:RS}{n:Int}(C:r.Ok)(h:(r.take n).1.f=0):0<=n/\((r.take n).2.size:Int)=n:=by
 obtain⟨E,J⟩:=C;unfold RS.take at h⊢;split at h
 .rename_i A
  rw[if_pos A];split at h;.simp at h
  .rename_i hn
   rw[if_neg hn];split at h;.simp at h
   .rename_i hs
    rw[if_neg hs];refine⟨lK,?_⟩;simp only[ja];omega
 .rename_i A
  exact absurd h A
theorem yj{r:RS}{n:Nat}(h:(r.comp n).1.f=0):(r.comp n).2<=n:=by
 unfold RS.comp at h⊢;split at h
 .rename_i A
  rw[if_pos A];generalize pq (r.t.data.toList.drop r.p)=t at*;dsimp only at h⊢;split at h
  .rename_i h0
   rw[if_pos h0];unfold Hr at h0;dsimp only;split at h0;.cases h0
   .rename_i C
    omega
  .rename_i h0
   rw[if_neg h0];exact jy _
 .rename_i A
  exact absurd h A
theorem Ac{f:lL TL->RS->Nat->WV}(A:∀t r l,MZ r (f t r l).2.1):∀(ts:List (lL TL×Bool))(r:RS)(l:Nat),MZ r (nE f ts r l).2.1
 |[],r,l=> .refl r
 |t::ts,r,l=>by
  unfold nE;split;.exact(A _ _ _).trans (Ac A ts _ _)
  .exact .refl r
theorem Ad:∀(d:Nat)(t:lL TL)(r:RS)(l:Nat),MZ r (nC d t r l).2.1
 |0,_,r,l=>Ab _ _
 |d+1,.node a s,r,l=>by
  unfold nC;split;.exact Ab _ _
  .split
   .exact uJ _ _
   .split
    .exact uJ _ _
    .split
     .exact(Kh _ _).trans (uJ _ _)
     .split
      .cases s with
       |nil=>exact Ab _ _
       |cons t ts=>exact(Kh _ _).trans (Ac (Ad d) _ _ _)
      .exact Ac (Ad d) _ _ _
structure RdG(t:lL TL)(l:Nat)(y:WV):Prop where
 count:y.1.count+y.2.2=l
 deep:y.1.deep<=t.deep
 right:y.1.all mO=true
 fits:oK y.1 t=true
theorem Ht{f:lL TL->RS->Nat->WV}(hk:∀t r l,MZ r (f t r l).2.1):∀(ts:List (lL TL×Bool))(r:RS)(l:Nat),r.Ok->(∀t,t∈ts->∀r l,r.Ok->(f t.1 r l).2.1.f=0->RdG t.1 l (f t.1 r l))->(nE f ts r l).2.1.f=0->
  lL.lZ (nE f ts r l).1+(nE f ts r l).2.2=l/\lL.mR mO (nE f ts r l).1=true/\(∀(i:Nat)(x:lL IL),(nE f ts r l).1[i]? =some x->∃t:lL TL×Bool,ts[i]? =some t/\oK x t.1=true/\x.deep<=t.1.deep)/\
   (nE f ts r l).1.length<=ts.length/\(∀t:lL TL×Bool,ts[(nE f ts r l).1.length]? =some t->t.2=false)
 |[],r,l,_,_,_=>⟨by simp[nE,lL.lZ],rfl,λi x h=>by simp[nE]at h,iI _,λt h=>by simp at h⟩
 |t::ts,r,l,ho,hg,h=>by
  unfold nE at h⊢;split at h
  .rename_i hc
   rw[if_pos hc];have N:(f t.1 r l).2.1.f=0:=(Ac hk ts _ _).f h;have C:=hg t lU r l ho N;obtain⟨V,O,Q,Y,U⟩:=Ht hk ts _ _ ((hk t.1 r l).ok ho) (λt ht=>hg t (by simp[ht])) h;refine⟨?_,?_,?_,?_,?_⟩
   .simp only[lL.lZ]
    have:=C.count;omega
   .simp only[lL.mR,C.right,O,Bool.and_self]
   .intro i x E
    cases i with
    |zero=>
     simp at E;subst E;exact⟨t,rfl,C.fits,C.deep⟩
    |succ i=>
     simp at E;obtain⟨J,e1,e2⟩:=Q i x E;exact⟨J,by simpa using e1,e2⟩
   .simp only[jm];omega
   .intro J A
    simp only[jm,iM]at A;exact U J A
  .rename_i hc
   rw[if_neg hc];refine⟨by simp[lL.lZ],rfl,λi x h=>by simp at h,jy _,?_⟩;intro J A;simp at A;subst A;cases ht:t.2 with
   |false=>rfl
   |true=>exact absurd ⟨.inl ht,h⟩ hc
theorem Ec{t:lL TL}:∀(s:List (lL IL))(i:Nat),(∀k x,s[k]? =some x->∃y,pE t (i+k)=some y/\oK x y=true)->qb s t i=true
 |[],_,_=>rfl
 |x::E,i,h=>by
  obtain⟨y,A,C⟩:=h 0 x rfl;simp only[qb];rw[Nat.add_zero]at A;rw[A];dsimp only;rw[C,Bool.true_and];exact Ec E (i+1) λk x J=>by
   obtain⟨y,A,C⟩:=h (k+1) x (by simpa using J);exact⟨y,by rw[<-A];congr 1;omega,C⟩
theorem Ed{D:Nat}:∀(s:List (lL α)),(∀x,x∈s->x.deep<=D)->lL.mG s<=D
 |[],_=>jy _
 |x::A,h=>by
  simp only[lL.mG];have E:=h x lU;have J:=Ed A λy C=>h y (by simp[C])
  omega
theorem ym:∀{s:List (lL α)}{x:lL α},x∈s->x.deep<=lL.mG s
 |[],_,h=>by cases h
 |y::A,x,h=>by
  simp only[lL.mG];rcases kD.1 h with rfl|h
  .omega
  .have:=ym h;omega
theorem M0(n:Nat)(hn:n<18446744073709551616):oH (zH n).reverse=(n,0):=by
 by_cases c:n=0;.subst c;rw[qf];rfl
 .obtain⟨l,b,E,J⟩:=R6 n lK
  have A:=AY 8 n (jq hn lM);have C:=Jk n;rw[E]at A C⊢;rw[List.reverse_append,List.reverse_singleton,List.singleton_append,oH,if_neg (by simp at A⊢;omega),if_neg J];unfold ql;rw[List.reverse_cons,List.reverse_reverse,C]
theorem Hu(b:ByteArray):z8 b<18446744073709551616:=by
 unfold z8;split
 .rename_i h
  have A:=qH b.data.toList;have C:b.data.toList.length=b.size:=lU;rw[C]at A;have E:(256:Nat)^b.size<=256^8:=jO lM h.2;have J:(256:Nat)^8=18446744073709551616:=lM;omega
 .decide
theorem Ee(a:IL)(t:lL TL)(h:a.list=false):(lL.node a []).count=1/\(lL.node a []).deep<=t.deep/\(lL.node a []).all mO=true:=by
 refine⟨by simp[lL.count,lL.lZ],?_,?_⟩
 .have:=lL.DL t
  simp only[lL.deep,lL.mG];omega
 .simp[lL.all,lL.mR,mO,oW,h]
theorem Bn(a:IL)(t:lL TL)(h:qx t a 0=true):oK (.node a []) t=true:=by
 simp only[oK,qb,List.length_nil,h,Bool.and_self]
theorem Hw:∀(d:Nat)(t:lL TL)(r:RS)(l:Nat),t.all mi=true->t.deep<=d->r.Ok->(nC d t r l).2.1.f=0->RdG t l (nC d t r l)
 |0,t,r,l,_,hd,_,_=>absurd (lL.DL t) lK
 |d+1,.node a s,r,l,ah,hd,ho,h=>by
  have E:∀{r:RS},(r.fail 4).f≠0:=by
   intro r h;unfold RS.fail at h;split at h;.simp at h
   .rename_i h0;exact h0 h
  simp only[lL.all,iY]at ah;obtain⟨Z,J⟩:=ah;have hk:∀k,a.kind=k->∀x m,qx (.node a s) x m=if k=1 then wN a x else if k=2 then xL a x else if k=3 then xM a x else if k=4 then yR a x m else if k=5 then wO a s.length x m else false:=λk h x m=>by unfold qx;rw[lL.nk,h];rfl
  unfold mi nX at Z;simp only[decide_eq_true_eq]at Z;have aa:lL.mG s<=d:=by simp only[lL.deep]at hd;omega
  unfold nC at h⊢;by_cases hl:l=0;.rw[if_pos hl]at h;exact absurd h E
  .rw[if_neg hl]at h⊢
   by_cases N:a.kind=1
   .rw[if_pos N]at h⊢
    dsimp only at h⊢;have ae:=Bl ho h;obtain⟨ai,O,Q⟩:=Ee ⟨(zH (z8 (r.take a.size).2)).reverse,false⟩ (.node a s) rfl;refine⟨?_,O,Q,Bn _ _ ?_⟩
    .show(Aa _).count+(l - 1)=l
     unfold Aa;omega
    .rw[hk 1 N,if_pos rfl]
     unfold wN okL;dsimp only;rw[M0 _ (Hu _)];have hsz:(zH (z8 (r.take a.size).2)).length<=(r.take a.size).2.size:=by
      refine AY _ _ ?_;unfold z8;split
      .have N:=qH (r.take a.size).2.data.toList
       have A:(r.take a.size).2.data.toList.length=(r.take a.size).2.size:=lU;rwa [A]at N
      .exact Nat.pos_of_ne_zero lU
     simp only[List.length_reverse,Bool.not_false,Bool.true_and,iY,decide_eq_true_eq];exact⟨rfl,lK⟩
   .rw[if_neg N]at h⊢
    by_cases A:a.kind=2
    .rw[if_pos A]at h⊢
     dsimp only at h⊢;have ae:=Bl ho h;obtain⟨ai,O,Q⟩:=Ee ⟨(r.take a.size).2.data.toList,false⟩ (.node a s) rfl;refine⟨?_,O,Q,Bn _ _ ?_⟩
     .show(sZ _).count+(l - 1)=l
      unfold sZ;omega
     .rw[hk 2 A,if_neg lM,if_pos rfl]
      unfold xL;dsimp only;have A:(r.take a.size).2.data.toList.length=(r.take a.size).2.size:=lU;rw[A];simp only[Bool.not_false,Bool.true_and,decide_eq_true_eq];exact ae.2
    .rw[if_neg A]at h⊢
     by_cases af:a.kind=3
     .rw[if_pos af]at h⊢
      dsimp only at h⊢;have hc:=yj ((uJ _ _).f h);have ae:=Bl (ho.comp _) h;generalize (r.comp a.size.toNat).1.take (r.comp a.size.toNat).2=y at*;obtain⟨ai,O,Q⟩:=Ee ⟨y.2.data.toList,false⟩ (.node a s) rfl;refine⟨?_,O,Q,Bn _ _ ?_⟩
      .show(sZ _).count+(l - 1)=l
       unfold sZ;omega
      .rw[hk 3 af,if_neg lM,if_neg lM,if_pos rfl]
       unfold xM;dsimp only;have A:y.2.data.toList.length=y.2.size:=lU;rw[A];simp only[Bool.not_false,Bool.true_and,decide_eq_true_eq];omega
     .rw[if_neg af]at h⊢
      by_cases U:a.kind=4
      .rw[if_pos U]at h⊢
       cases s with
       |nil=>exact absurd h E
       |cons t ts=>
        dsimp only at h⊢;have hn:ts=[]:=by
         have:(t::ts).length=1:=lK;simpa using this
        subst hn;simp only[lL.mR,Bool.and_true]at J;have aj:t.deep<=d:=by simp only[lL.mG]at aa;omega
        have ak:=(Ac (Ad d) _ _ _).f h;have hc:=yj ak;obtain⟨az,g2,g3,g4,au⟩:=Ht (Ad d) _ _ _ (ho.comp _) (λt' V r l ho ag=>by
         obtain⟨_,rfl⟩:=List.mem_replicate.1 V;exact Hw d t r l J aj ho ag) h
        generalize nE (nC d) (jY (r.comp a.size.toNat).2 (t,true)) (r.comp a.size.toNat).1 (l - 1)=z at*;rw[List.length_replicate]at g4;refine⟨?_,?_,?_,?_⟩
        .show(qy z.1).count+z.2.2=l
         simp only[qy,lL.count];omega
        .show(qy z.1).deep<=_
         simp only[qy,lL.deep,lL.mG];have:=Ed (D:=t.deep) z.1 λx C=>by
          obtain⟨i,hi⟩:=List.getElem?_of_mem C;obtain⟨t',e1,_,e3⟩:=g3 i x hi;obtain⟨_,rfl⟩:=List.mem_replicate.1 (jc e1);exact e3
         omega
        .show(qy z.1).all mO=true
         simp only[qy,lL.all,g2,Bool.and_true];simp[mO,oW]
        .show oK (qy z.1) _=true
         simp only[qy,oK,iY];refine⟨?_,Ec _ _ λk x C=> ?_⟩
         .rw[hk 4 U,if_neg lM,if_neg lM,if_neg lM,if_pos rfl]
          unfold yR;simp only[Bool.true_and,decide_eq_true_eq];omega
         .obtain⟨t',e1,e2,_⟩:=g3 k x C
          obtain⟨_,rfl⟩:=List.mem_replicate.1 (jc e1);refine⟨t,?_,e2⟩;unfold pE;rw[lL.nk,if_pos U];rfl
      .rw[if_neg U]at h⊢
       have aA:a.kind=5:=lK;obtain⟨az,g2,g3,g4,au⟩:=Ht (Ad d) _ _ _ ho (λt' V r l ho ag=>by
        obtain⟨i,hi⟩:=List.getElem?_of_mem V;unfold rZ at hi;rw[List.getElem?_mapIdx]at hi;obtain⟨t0,ht0,rfl⟩:=Option.map_eq_some_iff.1 hi;have av:=jc ht0;exact Hw d t0 r l (uH J av) (je (ym av) aa) ho ag) h
       have Y:∀{k:Nat}{t':lL TL×Bool},(rZ s a.tail)[k]? =some t'->s[k]? =some t'.1/\t'.2=decide ((k:Int)<s.length - a.tail):=by
        intro k t' hk';unfold rZ at hk';rw[List.getElem?_mapIdx]at hk';obtain⟨t0,ht0,rfl⟩:=Option.map_eq_some_iff.1 hk';exact⟨ht0,rfl⟩
       have hlen:(rZ s a.tail).length=s.length:=by simp[rZ]
       generalize nE (nC d) (rZ s a.tail) r (l - 1)=z at*;rw[hlen]at g4;refine⟨?_,?_,?_,?_⟩
       .show(qy z.1).count+z.2.2=l
        simp only[qy,lL.count];omega
       .show(qy z.1).deep<=_
        simp only[qy,lL.deep];have:=Ed (D:=lL.mG s) z.1 λx C=>by
         obtain⟨i,hi⟩:=List.getElem?_of_mem C;obtain⟨t',e1,_,e3⟩:=g3 i x hi;exact je e3 (ym (jc (Y e1).1))
        omega
       .show(qy z.1).all mO=true
        simp only[qy,lL.all,g2,Bool.and_true];simp[mO,oW]
       .show oK (qy z.1) _=true
        simp only[qy,oK,iY];refine⟨?_,Ec _ _ λk x C=> ?_⟩
        .rw[hk 5 aA,if_neg lM,if_neg lM,if_neg lM,if_neg lM,if_pos rfl]
         unfold wO;simp only[Bool.true_and,iY,decide_eq_true_eq];refine⟨g4,?_⟩;rcases jG z.1.length s.length with hlt|aC
         .have ax:=iZ (show z.1.length<(rZ s a.tail).length by omega)
          have aB:=au _ ax;have ay:=(Y ax).2;rw[aB]at ay;have aD:=of_decide_eq_false ay.symm;omega
         .omega
        .obtain⟨t',e1,e2,_⟩:=g3 k x C
         refine⟨t'.1,?_,e2⟩;unfold pE;rw[lL.nk,if_neg U,Nat.zero_add];exact(Y e1).1
def Fq(t:lL TL)(s:ByteArray)(items:Int):Except Nat (lL IL×Nat):=
 if(nC 8 t (RS.of s) (min items 1024).toNat).2.1.f≠0 then .error (nC 8 t (RS.of s) (min items 1024).toNat).2.1.f.toNat
 else .ok ((nC 8 t (RS.of s) (min items 1024).toNat).1,(nC 8 t (RS.of s) (min items 1024).toNat).2.1.p)
def Ki(t:lL TL)(s:ByteArray)(items:Int):Except Nat (lL IL):=match Fq t s items with
 | .error er=> .error er
 | .ok y=>if y.2<s.size then .error 3 else .ok y.1
theorem M3{t:lL TL}{s:ByteArray}{items:Int}{x:lL IL}(ht:nG t=true)(hi:1<=items)(hs:s.size<=jb)(h:Ki t s items=.ok x):
  o5 t x=0/\rO x=true/\x.deep<=8/\(x.count:Int)<=items:=by
 unfold Ki at h;split at h;.cases h
 .rename_i y C
  split at h;.cases h
  .cases h
   unfold Fq at C;split at C;.cases C
   .rename_i J
    cases C;have A:=ht;unfold nG at A;simp only[iY,decide_eq_true_eq]at A;have hg:=Hw 8 t (RS.of s) (min items 1024).toNat A.2 A.1.2 (RS.Ok.of (by unfold jb at hs;omega)) (by simpa using J);generalize nC 8 t (RS.of s) (min items 1024).toNat=y at*;have N:=hg.count;have O:=hg.deep;dsimp only;have E:rO y.1=true:=by
     unfold rO;simp only[iY,decide_eq_true_eq];exact⟨⟨hg.right,lK⟩,lK⟩
    refine⟨?_,E,lK,lK⟩;unfold o5;rw[if_pos ⟨ht,E⟩,if_pos hg.fits]
end
section
def vI(l:List UInt8)(R:Except Nat (lL IL×Nat×Nat)):Except Nat (lL IL):=match R with
 | .error er=> .error er
 | .ok y=>if y.2.1<l.length then .error 3 else .ok y.1
end
section
open Go.RowKit
structure Row where
 id:Nat
 name:ByteArray
 text:ByteArray
 ty:lL TL
structure Cb where
 name:ByteArray
 val:lL IL
def Bo(c:mU)(t:lL TL)(s:ByteArray):Except Nat (lL IL):=
 if c.fmt=1 then Ki t s c.mX else xN t (vI s.data.toList (rU (min c.dep 16).toNat s.data.toList (min c.mX 1024).toNat))
def ofF(c:mU)(rows:List Row)(f:uN):Option Row:=
 if c.fmt=1 then if f.id=0 then rows.find? λr=>decide (r.name=f.name)else none else if f.name.size=0 then rows.find? λr=>decide (r.id=f.id)else none
def Ef(c:mU)(rows:List Row)(f:uN):Except Nat Cb:=match ofF c rows f with
 |none=> .error 11
 |some r=>match Bo c r.ty f.body with
  | .error er=> .error (if er=2 then 3 else er)
  | .ok x=> .ok ⟨r.name,x⟩
def qG(c:mU)(rows:List Row)(s:ByteArray)(mt:Option (Nat×MS)):Except Nat (Cb×Nat)×Option (Nat×MS):=match pK c s mt with
 |(.error er,m2)=>(.error er,m2)
 |(.ok y,m2)=>match Ef c rows y.1 with
  | .error er=>(.error er,m2)
  | .ok m=>(.ok (m,y.2),m2)
structure WW where
 told:List Cb
 at_:Nat
 err:Nat
 mt:Option (Nat×MS)
def tK(c:mU)(rows:List Row)(s:ByteArray):Nat->Nat->Option (Nat×MS)->WW
 |0,p,mt=>⟨[],p,2,mt⟩
 |n+1,p,mt=>match qG c rows (s.extract p s.size) mt with
  |(.error er,m2)=>⟨[],p,er,m2⟩
  |(.ok y,m2)=>⟨y.1::(tK c rows s n (p+y.2) m2).told,(tK c rows s n (p+y.2) m2).at_,(tK c rows s n (p+y.2) m2).err,(tK c rows s n (p+y.2) m2).mt⟩
theorem Bp(c:mU)(rows:List Row)(s:ByteArray)(mt:Option (Nat×MS)):mr (qG c rows s mt).2=mr mt:=by
 have h:=xB c s mt;unfold qG;split;.rename_i e1;rw[e1]at h;exact h
 .rename_i e1
  rw[e1]at h;split<;>exact h
def Typed(c:mU)(rows:List Row)(m:Cb):Prop:=
 ∃r,r∈rows/\m.name=r.name/\o5 r.ty m.val=0/\rX m.val (if c.fmt=1 then 16 else c.dep) c.mX=0
theorem M4(hc:mK c=true){t:lL TL}(ht:nG t=true){s:ByteArray}(hs:s.size<=jb){x:lL IL}(h:Bo c t s=.ok x):
  o5 t x=0/\rX x (if c.fmt=1 then 16 else c.dep) c.mX=0:=by
 obtain⟨_,_,_,⟨U,hd2⟩,hi1,hi2⟩:=oV hc;unfold Bo at h;split at h
 .rename_i E
  rw[if_pos E];obtain⟨J,N,V,Y⟩:=M3 ht hi1 hs h;refine⟨J,?_⟩;unfold rX;rw[if_pos N,if_neg lK,if_neg lK]
 .rename_i E
  rw[if_neg E];unfold xN at h;rw[if_pos ht]at h;split at h;.cases h
  .rename_i Z A
   split at h
   .rename_i C
    cases h;refine⟨C,?_⟩;have O:rO x=true:=by
     unfold o5 at C;split at C;.rename_i h;exact h.2
     .cases C
    unfold vI at A;split at A;.cases A
    .rename_i y Q
     split at A;.cases A
     .cases A
      have aa:=xE _ _ _ _ Q;unfold rX;rw[if_pos O,if_neg lK,if_neg lK]
   .cases h
theorem WX{rows:List Row}{f:uN}{r:Row}(h:ofF c rows f=some r):r∈rows:=by
 unfold ofF at h;split at h
 .split at h
  .exact List.mem_of_find?_eq_some h
  .cases h
 .split at h
  .exact List.mem_of_find?_eq_some h
  .cases h
theorem M5(hc:mK c=true){rows:List Row}(C:∀r,r∈rows->nG r.ty=true){f:uN}(hs:f.body.size<=jb){m:Cb}(h:Ef c rows f=.ok m):Typed c rows m:=by
 unfold Ef at h;split at h;.cases h
 .rename_i r E
  split at h;.cases h
  .rename_i x J
   cases h;have A:=WX E;obtain⟨N,O⟩:=M4 hc (C r A) hs J;exact⟨r,A,rfl,N,O⟩
theorem Kj{f:Nat->Int}:∀ n k:Nat,uP f n k=0->∀j,j<n->f (k+j)=0
 |0,k,_,j,A=>by omega
 |n+1,k,h,j,A=>by
  unfold uP at h;split at h
  .rename_i h0
   cases j with
   |zero=>exact h0
   |succ j=>rw[show k+(j+1)=k+1+j by omega];exact Kj n (k+1) h j lK
  .rename_i h0;exact absurd h h0
theorem TG{s:ByteArray}{m most:Int}{y:uN×Nat}(h:rW s m most=.ok y):0<y.2/\y.2<=s.size/\y.1.body.size<=s.size/\y.1.id=0:=by
 unfold rW at h;split at h
 .rename_i h0
  cases h;have A:=Kj 9 0 h0 7 lM;have A:Fg (decide (24+sw s<=s.size)) 2=0:=A;have C:=rJ lM A;simp only[decide_eq_true_eq]at C;refine⟨lK,C,?_,rfl⟩;simp only[ja];omega
 .cases h
theorem Kk{l:List UInt8}{N K:Nat}(h:ma l 0 0=(N,K,0)):0<K:=by
 cases K with
 |zero=>
  obtain⟨_,_,C,_⟩:=qQ h;have A:=LA N;rw[C]at A;simp at A
 |succ K=>omega
theorem Kl{most:Int}{s:ByteArray}(h:(mZ most s).e=0):0<(mZ most s).n/\(mZ most s).n<=s.size/\(mZ most s).body.size<=s.size:=by
 unfold mZ at*;split
 .rename_i h0
  rw[if_pos h0]at h;generalize E:nz most s.data.toList=q at*;obtain⟨n,k,e⟩:=q;dsimp only at*;subst h0;have J:=xh E;have N:=Kk J.1;split
  .rename_i A
   rw[if_pos A]at h;cases h
  .rename_i A
   rw[if_neg A]at h;split
   .rename_i C
    refine⟨by dsimp only;omega,by dsimp only;omega,?_⟩;dsimp only;simp only[ja];omega
   .rename_i C
    rw[if_neg C]at h;cases h
 .rename_i h0
  rw[if_neg h0]at h;exact absurd h h0
theorem OO{size:Nat}:∀(f:Nat)(r:RS)(l:List UInt8),r.Ok->l.length<=size->(wR size f r l).2.length<=size
 |0,r,l,_,hl=>hl
 |f+1,r,l,ho,hl=>by
  unfold wR;split
  .rename_i h
   obtain⟨_,_,A,C⟩:=xn ho hl h.1 h.2;exact OO f _ _ A C
  .exact hl
theorem TH{s:ByteArray}{size:Nat}{l:List UInt8}(hs:s.size<=jb)(h:BN s size=.ok l):l.length<=size:=by
 unfold BN at h;dsimp only at h;have A:=OO (size:=size) (s.size+1) (RS.of s) [] (RS.Ok.of (by unfold jb at hs;omega)) (jy _);generalize wR size (s.size+1) (RS.of s) []=y at*;generalize (if y.2.length<size then y.1.fail 2 else y.1)=r at h;split at h;.cases h
 .cases h;exact A
theorem M6{s:ByteArray}{A:Int}{mt m2:Option (Nat×MS)}{l:List UInt8}(hs:s.size<=jb)(h:qI s A mt=(.ok l,m2)):(l.length:Int)<=A:=by
 unfold qI at h;generalize sj s.data.toList=q at*;obtain⟨n,k,e⟩:=q;dsimp only at h;split at h;.cases h
 .split at h
  .cases h
  .rename_i C
   split at h;.cases h
   .simp only[Prod.mk.injEq]at h
    have:=TH (by simp only[ja];omega) h.1;omega
theorem Eg(hc:mK c=true){s:ByteArray}(hs:s.size<=100000){mt:Option (Nat×MS)}{y:uN×Nat}(h:(pK c s mt).1=.ok y):0<y.2/\y.2<=s.size/\y.1.body.size<=100000:=by
 obtain⟨_,_,⟨E,J⟩,_,_⟩:=oV hc;unfold pK at h;split at h
 .have:=TG h
  exact⟨this.1,this.2.1,lK⟩
 .split at h
  .dsimp only at h
   unfold uB at h;split at h;.cases h
   .rename_i h0
    cases h;have:=Kl (by simpa using h0);exact⟨this.1,this.2.1,by dsimp only;omega⟩
  .unfold rM at h
   split at h;.cases h
   .rename_i h0
    have A:=Kl (by simpa using h0);split at h;.cases h
    .rename_i l m2 C
     cases h;have N:=M6 AV C;exact⟨A.1,A.2.1,by show((⟨l.toArray⟩:ByteArray)).size<=100000;have:((⟨l.toArray⟩:ByteArray)).size=l.length:=kV;omega⟩
theorem Eh(hc:mK c=true){rows:List Row}(C:∀r,r∈rows->nG r.ty=true){s:ByteArray}(hs:s.size<=100000):∀(n p:Nat)(mt:Option (Nat×MS))(m:Cb),m∈(tK c rows s n p mt).told->Typed c rows m
 |0,p,mt,m,h=>by simp[tK]at h
 |n+1,p,mt,m,h=>by
  unfold tK at h;split at h;.simp at h
  .rename_i y m2 A
   rcases kD.1 h with rfl|h
   .unfold qG at A
    split at A;.cases A
    .rename_i q N E
     have hb:=(Eg (y:=q) hc (s:=s.extract p s.size) (by simp only[ja];omega) (by rw[E])).2.2;split at A;.cases A
     .rename_i m J
      simp only[Prod.mk.injEq,Except.ok.injEq]at A;obtain⟨rfl,_⟩:=A;exact M5 hc C AV J
   .exact Eh hc C hs n _ _ m h
def qc(D:Nat->Bool)(vs:Nat->iJ):List kH->Nat->Act->Act
 |[],_,a=>a
 |o::l,k,a=>qc D vs l (k+1) (if D k then a.put o.dst (vs k)else a)
def wP(vs:Nat->iJ):List kH->Nat->Act->Act
 |[],_,a=>a
 |o::l,k,a=>wP vs l (k+1) (a.put o.dst (vs k))
theorem FY{D:Nat->Bool}{vs:Nat->iJ}:∀(l:List kH)(k:Nat)(a:Act),(∀j,k<=j->j<k+l.length->D j=true)->qc D vs l k a=wP vs l k a
 |[],_,_,_=>rfl
 |o::l,k,a,h=>by
  rw[qc,wP,if_pos (h k (iI _) lU)];exact FY l (k+1) _ λj A C=>h j lK lW
theorem Ei{D:Nat->Bool}{vs:Nat->iJ}:∀(l:List kH)(k:Nat)(a:Act),(∀j,k<=j->j<k+l.length->D j=false)->qc D vs l k a=a
 |[],_,_,_=>rfl
 |o::l,k,a,h=>by
  rw[qc,h k (iI _) lU];exact Ei l (k+1) _ λj A C=>h j lK lW
theorem Cc{D D':Nat->Bool}{vs vs':Nat->iJ}:∀(l:List kH)(k:Nat)(a:Act),(∀j,k<=j->D j=D' j/\vs j=vs' j)->qc D vs l k a=qc D' vs' l k a
 |[],_,_,_=>rfl
 |o::l,k,a,h=>by
  rw[qc,qc,(h k (iI _)).1,(h k (iI _)).2];exact Cc l (k+1) _ λj A=>h j lK
def rq:List kH->Bool
 |[]=>true
 |o::l=>(match o.dst with|some d=>l.all λp=>p.dst !=some d|none=>true)&&rq l
theorem zu{D:Nat->Bool}{vs:Nat->iJ}{x:Option Tmp}{v:iJ}:∀(l:List kH)(k:Nat)(a:Act),(∀d,x=some d->∀p∈l,p.dst≠some d)->qc D vs l k (a.put x v)=(qc D vs l k a).put x v
 |[],_,_,_=>rfl
 |o::l,k,a,h=>by
  rw[qc,qc];split;.rw[<-zu l (k+1) _ (λd hd p hp=>h d hd p (by simp[hp])),Act.put_comm a v (vs k) (λd hd=>h d hd o lU)]
  .exact zu l (k+1) _ λd hd p hp=>h d hd p (by simp[hp])
theorem xO{o:kH}{l:List kH}(h:rq (o::l)=true):(∀d,o.dst=some d->∀p∈l,p.dst≠some d)/\rq l=true:=by
 simp only[rq,iY]at h;refine⟨λd hd p hp=> ?_,h.2⟩;have A:=h.1;rw[hd]at A;simpa using jV.1 A p hp
def wV(D:Nat->Bool)(i:Nat):Nat->Bool:=λj=>if j=i then true else D j
def wW(vs:Nat->iJ)(i:Nat)(v:iJ):Nat->iJ:=λj=>if j=i then v else vs j
theorem FZ{D:Nat->Bool}{vs:Nat->iJ}{i:Nat}{o:kH}{v:iJ}(A:D i=false):∀(l:List kH)(k:Nat)(a:Act),rq l=true->k<=i->l[i - k]? =some o->(qc D vs l k a).put o.dst v=qc (wV D i) (wW vs i v) l k a
 |[],k,a,_,_,ho=>by simp at ho
 |p::l,k,a,hd,hk,ho=>by
  obtain⟨J,N⟩:=xO hd;by_cases C:i=k
  .subst C
   simp at ho;subst ho;rw[qc,qc,A];simp only[j4,if_false];rw[show wV D i i=true from if_pos rfl,show wW vs i v i=v from if_pos rfl];simp only[if_true];rw[zu l (i+1) a J,Cc (D':=wV D i) (vs':=wW vs i v) l (i+1) a λj O=>⟨(if_neg lK).symm,(if_neg lK).symm⟩]
  .have E:l[i -(k+1)]? =some o:=by
    rw[show i - k=(i -(k+1))+1 by omega]at ho;simpa using ho
   rw[qc,qc,show wV D i k=D k from if_neg lK,show wW vs i v k=vs k from if_neg lK];exact FZ A l (k+1) _ N lK E
def slotL(vs:Nat->iJ):List kH->Nat->Tmp->iJ->iJ
 |[],_,_,v=>v
 |o::l,k,t,v=>if o.dst=some t then vs k else slotL vs l (k+1) t v
theorem Ga{D:Nat->Bool}{vs:Nat->iJ}{t:Tmp}:∀(l:List kH)(k:Nat)(a:Act),(∀p∈l,p.dst≠some t)->(qc D vs l k a).tmps.getD t jo=a.tmps.getD t jo
 |[],_,_,_=>rfl
 |o::l,k,a,h=>by
  rw[qc,Ga l (k+1) _ λp hp=>h p (by simp[hp])];split
  .have:=Act.eval_put (a:=a) (dst:=o.dst) (v:=vs k) (x:=.tmp t) λd hd e=>by cases e;exact h o lU hd
   exact this
  .rfl
theorem Km{D:Nat->Bool}{vs:Nat->iJ}{t:Tmp}:∀(l:List kH)(k:Nat)(a:Act),rq l=true->t<a.tmps.size->(∀j o,l[j]? =some o->o.dst=some t->D (k+j)=true)->
  (qc D vs l k a).tmps.getD t jo=slotL vs l k t (a.tmps.getD t jo)
 |[],_,_,_,_,_=>rfl
 |o::l,k,a,hd,ht,h=>by
  obtain⟨J,N⟩:=xO hd;rw[qc,slotL];by_cases A:o.dst=some t
  .rw[if_pos A,Ga l (k+1) _ λp hp=>J t A p hp,show D k=true from h 0 o rfl A]
   simp only[if_true];rw[A];simp[jZ,ht]
  .have hput:(if D k then a.put o.dst (vs k)else a).tmps.size=a.tmps.size:=by
    split;.unfold jZ;split<;>simp
    .rfl
   have hget:(if D k then a.put o.dst (vs k)else a).tmps.getD t jo=a.tmps.getD t jo:=by
    cases D k;.rfl
    .exact Act.eval_put (a:=a) (dst:=o.dst) (v:=vs k) (x:=.tmp t) λd C e=>by cases e;exact A C
   rw[if_neg A,Km l (k+1) _ N (by rw[hput];exact ht) λj p hp E=>by have:=h (j+1) p (by simpa using hp) E;rwa [show k+(j+1)=k+1+j by omega]at this,hget]
def M7(ops:Array kH)(o:kH)(j:Nat):Bool:=match (ops[j]?).bind (·.dst)with|some d=>(o.looksAt ops).contains d|none=>false
section
variable {P:kg}{ops:Array kH}
theorem Oper.Zq{o:kH}{w:iH}{K C:Act->iH->Prop}{Q Q':Exit->Act->iH->Prop}(h:∀a w,K a w->C a w)(E:∀e a w,Q e a w->Q' e a w)(hL:LetsOut Q->LetsOut Q')(A:o.wp P a w K Q):o.wp P a w C Q':=by
 unfold Oper.wp at*;generalize (execOp a.eval o).run P w=r at*;cases r with
 |ok n w'=>
  cases n<;>simp only[Oper.upon]at A⊢;case value u=>exact h _ _ A
  case skip=>exact h _ _ A
  case enter f args=>
   refine A.mono λe J he=> ?_
   cases e<;>simp only at he⊢;.exact h _ _ he
   .exact E _ _ _ he
   .exact hL he
  case defer d=>exact h _ _ A
  case row r args=>exact A.mono λv J he=>h _ _ he
 |halt x w'=>
  cases x<;>simp only[Oper.upon]at A⊢;case panic v=>exact E _ _ _ A
end
def Ym(ops:Array kH)(n sz:Nat):Bool:=
 Region.noSelect ops&&rq (ops.toList.take n)&&decide (n<=ops.size)&&(kI n).all λi=>match ops[i]? with
  |none=>false
  |some o=>(o.after.all λe=> !kG .any e||decide (e.on<i))&&((o.looksAt ops).all λt=>decide (t<sz))&&(kI n).all λj=> !M7 ops o j||Region.waitsFor .any ops i j
section
variable {P:kg}{ops:Array kH}
def Ae(P:kg)(ops:Array kH)(n:Nat)(a0:Act)(I:(Nat->Bool)->(Nat->iJ)->iH->Prop)(i:Nat)(o:kH):Prop:=
 ∀(D:Nat->Bool)(vs:Nat->iJ)(a:Act)(w:iH)(K:Act->iH->Prop),I D vs w->D i=false->(∀j,j<n->Region.waitsFor .any ops i j=true->D j=true)->(∀j,j<n->Region.waitsFor .any ops j i=true->D j=false)->
  (∀t∈o.looksAt ops,a.tmps.getD t jo=slotL vs (ops.toList.take n) 0 t (a0.tmps.getD t jo))->
  (∀v A w',A=a.put o.dst v->I (wV D i) (wW vs i v) w'->K A w')->
  if Region.wanted o (yielded ops a.tmps)=true then o.wp P a w K (λ_ _ _=>False)else K (a.put o.dst jo) w
theorem l6{id:Nat}{Q:Exit->Act->iH->Prop}{w:iH}{l:List kH}(n sz:Nat)(I:(Nat->Bool)->(Nat->iJ)->iH->Prop)(az:P.follows .mixedOrders=true)(hsz:a0.tmps.size=sz)(hB:Ym l.toArray n sz=true)(af:n=l.length\/(Region.sinkB .any l.toArray n&&Region.chainB .any l.toArray n&&decide (n<l.length))=true)(bz:Region.seqB .any l.toArray (l.length - n) n (jQ n true++jQ (l.length - n) false)=true)(hI:∀vs,I (λ_=>false) vs {w with drawn:=w.drawn+1})(aP:∀i o,i<n->l[i]? =some o->Ae P l.toArray n a0 I i o)(bA:∀(D:Nat->Bool) (vs:Nat->iJ) (w':iH),(∀j,j<n->D j=true)->I D vs w'->wpList P l.toArray Q (l.drop n) (wP vs (l.take n) 0 a0) w'):
  (jJ id l.toArray true).wp P Q a0 w:=by
 simp only[Ym,iY,decide_eq_true_eq]at hB;obtain⟨⟨⟨bB,aK⟩,aQ⟩,ag⟩:=hB;have bC:n<=l.length:=by simpa using aQ
 have aa:rq (l.take n)=true:=by simpa using aK
 refine wp_region_any az ?_
 have key:∀(f:Nat)(A:Array Bool)(a:Act)(w:iH)(vs:Nat->iJ),HeadInv .any l.toArray n A->((kI n).filter λj=> !A.getD j false).length=f->
   a=qc (λj=>A.getD j false) vs (l.take n) 0 a0->I (λj=>A.getD j false) vs w->wpAny P .any l.toArray Q (f+(l.length - n)) A a w:=by
  intro f;induction f with
  |zero=>
   intro A a w vs inv aA aB ah;have hdone:∀j,j<n->A.getD j false=true:=λj C=>by
    have h0:=List.eq_nil_of_length_eq_zero aA;rw[List.filter_eq_nil_iff]at h0;have:=h0 j (kF.2 C);simpa using this
   have aC:A=jQ n true++jQ (l.length - n) false:=by
    have aR:=inv.size;simp at aR;apply Array.ext;.simp;omega
    .intro j O U
     by_cases C:j<n
     .have:=hdone j C
      rw[Array.getElem_append_left (by simpa using C)];simpa [O]using this
     .have:=inv.tail j lK lW
      rw[Array.getElem_append_right lW];simpa [O]using this
   have aD:a=wP vs (l.take n) 0 a0:=by
    rw[aB];exact FY _ _ _ λj _ C=>hdone j (by simp at C;omega)
   rw[Nat.zero_add];have:=wpAny_of_seq (P:=P) (md:=.any) (ops:=l.toArray) (Q':=Q) (l.drop n) n A a w (λj=>by simp[List.getElem?_drop]) (by rw[jS,aC];exact bz) (by
    rw[aD];exact bA _ vs w hdone ah)
   rwa [jS]at this
  |succ f bD=>
   intro A a w vs inv aA aB ah;have aH:∃j,j<n/\A.getD j false=false:=by
    have h0:(kI n).filter (λj=> !A.getD j false)≠[]:=by intro h;rw[h]at aA;simp at aA
    obtain⟨j,C⟩:=List.exists_mem_of_ne_nil _ h0;rw[List.mem_filter,kF]at C;exact⟨j,C.1,by simpa using C.2⟩
   have hin:∀j,j<n->j<A.size:=λj C=>by rw[inv.size];simp;omega
   rw[show f+1+(l.length - n)=(f+(l.length - n))+1 by omega];have ai:jW .any l.toArray A≠[]:=by
    have:∃j,(j<n/\A.getD j false=false)/\∀k,k<j->¬(k<n/\A.getD k false=false):=by
     obtain⟨j,C⟩:=aH;induction j using Nat.strongRecOn with
     |_ j aS=>
      rcases Classical.em (∃k,k<j/\(k<n/\A.getD k false=false))with⟨k,hk,hk2⟩|h
      .exact aS k hk hk2
      .exact⟨j,C,λk hk hk2=>h ⟨k,hk,hk2⟩⟩
    obtain⟨j,⟨J,aj⟩,aL⟩:=this;have aT:j<l.length:=lK;have V:l.toArray[j]? =some l[j]:=by simp[aT]
    have O:=jV.1 ag j (kF.2 J);rw[V]at O;simp only[iY]at O;intro h0;have az:j∈jW .any l.toArray A:=by
     rw[mem_ready];refine⟨getD_in (hin j J) aj,l[j],V,λe he hb=> ?_⟩;have U:=Array.all_eq_true_iff_forall_mem.1 O.1.1 e he;rw[hb]at U;simp at U;cases hl:A.getD e.on false with
     |true=>rfl
     |false=>exact absurd ⟨lK,hl⟩ (aL e.on U)
    rw[h0]at az;cases az
   refine⟨λh0=>absurd h0 ai,λi hi=> ?_⟩;have aU:=mem_ready.1 hi;obtain⟨ae,oi,Z,aF⟩:=aU;have bH:i<l.length:=by have:=(jk.1 Z).1;simpa using this
   have E:i<n:=by
    rcases jG i n with h|h
    .exact h
    .rcases af with af|af
     .omega
     .simp only[iY,decide_eq_true_eq]at af
      obtain⟨⟨hs,hc⟩,hn⟩:=af;obtain⟨j,J,aj⟩:=aH;exact absurd hi (tail_waits hs hc (by simpa using hn) inv _ j rfl J (getD_in (hin j J) aj) i h)
   have ak:l[i]? =some oi:=by simpa using Z
   have O:=jV.1 ag i (kF.2 E);rw[Z]at O;simp only[iY]at O;obtain⟨⟨_,au⟩,av⟩:=O;have aI:∀j,Region.waitsFor .any l.toArray i j=true->A.getD j false=true:=λj Y=>by
    obtain⟨bE,aV,e,he,hb,ax⟩:=Region.waitsFor_spec Y;have:bE=oi:=kK (aV.symm.trans Z);subst this;rw[<-ax];exact aF e he hb
   have hdone:∀j,j<n->M7 l.toArray oi j=true->A.getD j false=true:=λj C aW=>by
    have U:=jV.1 av j (kF.2 C);rw[aW]at U;simp only[Bool.not_true,Bool.false_or]at U;exact aI j U
   have aG:∀t∈oi.looksAt l.toArray,a.tmps.getD t jo=slotL vs (l.toArray.toList.take n) 0 t (a0.tmps.getD t jo):=λt ht=>by
    have U:=jV.1 au t ht;rw[aB];exact Km (l.take n) 0 a0 aa (by rw[hsz];simpa using U) λj o C aM=>by
     rw[Nat.zero_add];have J:j<n:=by have:=(jH.1 C).1;simp at this;omega
     have V:l.toArray[j]? =some o:=by rw[List.getElem?_take,if_pos J]at C;simpa using C
     refine hdone j J ?_;unfold M7;rw[V];show(match o.dst with|some d=>(oi.looksAt l.toArray).contains d|none=>false)=true;rw[aM];simpa using ht
   have ay:∀j,(A.setIfInBounds i true).getD j false=if j=i then true else A.getD j false:=λj=>by
    by_cases h:j=i;.subst h;simp[hin j E]
    .rw[if_neg h,getD_set_ne false (Ne.symm h)]
   have aJ:(λj=>(A.setIfInBounds i true).getD j false)=wV (λj=>A.getD j false) i:=funext λj=>by rw[ay];rfl
   have N:=aP i oi E ak (λj=>A.getD j false) vs a w (wpAny P .any l.toArray Q (f+(l.length - n)) (A.setIfInBounds i true)) ah (getD_both ae) (λj _ Y=>aI j Y) (λj C Y=>by
    cases hl:A.getD j false with
    |false=>rfl
    |true=>
     obtain⟨aX,V,e,he,hb,ax⟩:=Region.waitsFor_spec Y;have:=inv.closed j aX V hl e he hb;rw[ax,getD_both ae]at this;cases this) aG (λv bF w' aY aZ=>by
    refine bD (A.setIfInBounds i true) bF w' (wW vs i v) (inv.set hi E) ?_ ?_ ?_
    .have bg:((kI n).filter λj=> !A.getD j false).length=((kI n).filter λj=> !(A.setIfInBounds i true).getD j false).length+1:=by
      have aN:(λj=> !(A.setIfInBounds i true).getD j false)=λj=> !(if j=i then true else A.getD j false):=funext λj=>by rw[ay]
      rw[aN];have bq:∀m,i<m->((kI m).filter λj=> !A.getD j false).length=((kI m).filter λj=> !(if j=i then true else A.getD j false)).length+1:=by
       intro m;induction m with
       |zero=>intro h;omega
       |succ m bu=>
        intro bI;rw[List.range_succ,List.filter_append,List.filter_append,jv,jv];by_cases h:i=m
        .subst h
         have e1:(kI i).filter (λj=> !A.getD j false)=(kI i).filter (λj=> !(if j=i then true else A.getD j false)):=by
          refine List.filter_congr λj C=> ?_
          have:=kF.1 C;rw[if_neg lK]
         rw[e1];have:A.getD i false=false:=getD_both ae;simp only[List.filter_cons,List.filter_nil,this,if_true];simp
        .rw[bu lK]
         simp only[List.filter_cons,List.filter_nil,if_neg (Ne.symm h)];omega
      exact bq n E
     omega
    .rw[aY,aB]
     have bG:=FZ (D:=λj=>A.getD j false) (vs:=vs) (i:=i) (o:=oi) (v:=v) (getD_both ae) (l.take n) 0 a0 aa (jy _) (by rw[Nat.sub_zero,List.getElem?_take,if_pos E];exact ak);rw[bG,aJ]
    .rw[aJ];exact aZ)
   unfold wpOp;rw[Z];show if Region.wanted oi (yielded l.toArray a.tmps)=true then _ else _
   split
   .rename_i Y
    rw[if_pos Y]at N;exact .inl (Oper.Zq (λ_ _ h=>h) (λ_ _ _ h=>h.elim) (λh=>by obtain⟨_,_,h⟩:=h;exact h.elim) N)
   .rename_i Y
    rw[if_neg Y]at N;exact N
 have aO:HeadInv .any l.toArray n (jQ l.toArray.size false):=
  ⟨lU,λj aX _ hl=>(by rw[getD_replicate_false]at hl;cases hl),λt _ ht=>getD_in (by simpa using ht) (getD_replicate_false _ _)⟩
 have:=key n (jQ l.toArray.size false) a0 {w with drawn:=w.drawn+1} (λ_=>jo) aO (by
  rw[List.filter_eq_self.2 (λj _=>by rw[getD_replicate_false];rfl),List.length_range]) (by
  rw[Ei _ _ _ λj _ _=>getD_replicate_false _ _]) (by
  rw[show(λj=>(jQ l.toArray.size false).getD j false)=λ_=>false from funext λj=>getD_replicate_false _ _];exact hI _)
 rw[show n+(l.length - n)=l.length by omega]at this;simpa using this
theorem ru{x:Array iJ}{k:Nat}{b:Bool}(h:x.getD k jo=lu b):x[k]? =some (lu b):=by
 rw[jR]at h;cases A:x[k]? with
 |none=>rw[A]at h;cases h
 |some v=>rw[A]at h;exact congrArg some h
theorem l7(D:Nat->Bool)(i:Nat):wV D i i=true:=if_pos rfl
theorem lT(D:Nat->Bool){i j:Nat}(h:j≠i):wV D i j=D j:=if_neg h
theorem nI(vs:Nat->iJ)(i:Nat)(v:iJ):wW vs i v i=v:=if_pos rfl
theorem l8(vs:Nat->iJ){i j:Nat}(v:iJ)(h:j≠i):wW vs i v j=vs j:=if_neg h
end
def o6(P:kg)(A:Array kH)(n:Nat)(a0:Act)(I:(Nat->Bool)->(Nat->iJ)->iH->Prop):Nat->List kH->Prop
 |_,[]=>True
 |k,o::l=>Ae P A n a0 I k o/\o6 P A n a0 I (k+1) l
theorem OP{P:kg}{A:Array kH}{n:Nat}{I:(Nat->Bool)->(Nat->iJ)->iH->Prop}:∀{l:List kH}{k i:Nat}{o:kH},o6 P A n a0 I k l->l[i]? =some o->Ae P A n a0 I (k+i) o
 |[],_,_,_,_,h=>by simp at h
 |_::_,k,0,_,h,e=>by simp at e;subst e;exact h.1
 |_::l,k,i+1,o,h,e=>by
  have:=OP (l:=l) (k:=k+1) (i:=i) (o:=o) h.2 (by simpa using e);rwa [show k+1+i=k+(i+1)by omega]at this
theorem pO{P:kg}{n:Nat}{I:(Nat->Bool)->(Nat->iJ)->iH->Prop}{l:List kH}(h:∀A,A=l.toArray->o6 P A n a0 I 0 (l.take n)):∀i o,i<n->l[i]? =some o->Ae P l.toArray n a0 I i o:=λi o hi ho=>by
 have:=OP (h _ rfl) (i:=i) (o:=o) (by rw[List.getElem?_take_of_lt hi];exact ho);rwa [Nat.zero_add]at this
theorem fe{l:List kH}{n i:Nat}{o:kH}{vs U:Nat->iJ}{S D:Nat->Bool}(A:∀t∈o.looksAt l.toArray,a.tmps.getD t jo=slotL vs (l.toArray.toList.take n) 0 t (a0.tmps.getD t jo))(hI:∀j,S j=true->D j=true->vs j=U j)(C:∀j,j<n->Region.waitsFor .any l.toArray i j=true->D j=true)(t j:Nat)(E:t∈o.looksAt l.toArray:=by decide)(J:S j=true:=by rfl)(N:j<n:=by decide)(O:Region.waitsFor .any l.toArray i j=true:=by kernel_rfl)(Q:slotL vs (l.toArray.toList.take n) 0 t (a0.tmps.getD t jo)=vs j:=by rfl):a.tmps.getD t jo=U j:=(A t E).trans (Q.trans (hI j J (C j N O)))
theorem Kn{vs A:Nat->iJ}:∀(l:List kH)(k:Nat)(a:Act),(∀j,j<k+l.length->vs j=A j)->wP vs l k a=wP A l k a
 |[],_,_,_=>rfl
 |o::l,k,a,h=>by
  rw[wP,wP,h k lU,Kn l (k+1) _ λj C=>h j lW]
theorem mQ{l:List kH}{n:Nat}{vs E:Nat->iJ}{S D:Nat->Bool}(hI:∀j,S j=true->D j=true->vs j=E j)(A:∀j,j<n->D j=true):wP vs (l.take n) 0 a=wP (λj=>if S j=true then E j else vs j) (l.take n) 0 a:=
 Kn _ _ _ λj C=>by
  rw[Nat.zero_add,ky]at C;by_cases h:S j=true;.rw[if_pos h];exact hI j h (A j lK)
  .rw[if_neg h]
theorem ry{S:Nat->Bool}{C:Nat->iJ}{D:Nat->Bool}{vs:Nat->iJ}{i:Nat}(h:∀j,S j=true->D j=true->vs j=C j):∀j,S j=true->wV D i j=true->wW vs i (C i) j=C j:=by
 intro j hs A;by_cases e:j=i;.subst e;exact nI _ _ _
 .rw[l8 _ _ e];rw[lT _ e]at A;exact h j hs A
theorem Ko{S:Nat->Bool}{C:Nat->iJ}{D:Nat->Bool}{vs:Nat->iJ}{i:Nat}{v:iJ}(hi:S i=false)(h:∀j,S j=true->D j=true->vs j=C j):∀j,S j=true->wV D i j=true->wW vs i v j=C j:=by
 intro j hs A;have e:j≠i:=by rintro rfl;rw[hs]at hi;cases hi
 rw[l8 _ _ e];rw[lT _ e]at A;exact h j hs A
end
end Go.Proofs.YtamfcjmhnndbdaaGreatDoor


