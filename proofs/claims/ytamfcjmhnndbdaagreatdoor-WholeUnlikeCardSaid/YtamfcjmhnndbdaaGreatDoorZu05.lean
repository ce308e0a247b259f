/- Part 5 of the proof. -/
import Derived.Test.YtamfcjmhnndbdaaGreatDoorZu00
import Derived.Test.YtamfcjmhnndbdaaGreatDoorZu01
import Derived.Test.YtamfcjmhnndbdaaGreatDoorZu03
import Derived.Test.YtamfcjmhnndbdaaGreatDoorZu04
import Derived.Maps.OwnSet
import Derived.Maps.OwnOps
import Derived.Maps.RangeWalk
import Derived.WalkSpells
import Derived.Deep.CutBlock
import Derived.Deep.DeepCutAuto
open Go.Value renaming agg→nC,bool→nA,int→ng,pointer→nz,string→ny,tuple→nD
open Go.Obj renaming cells→nG
open Go.IntKind renaming i64→nH,u32→nJ,u64→nI
open Go.Ending renaming returned→nE
open Go.Lib renaming hid→jH
open Go.Proofs.Tryz renaming prog→jI
open Go renaming World→jJ,Value→jP,Calls→jV,bodyPost_ret→j4,maxLen→j5,TypeId→ko,undef→kH,results→kK,Oper→lX,Addr→l5,Program→mK
open Nat renaming le_refl→jL,le_trans→kg,zero_le→kI,add_assoc→kP,le_succ→kX,lt_or_ge→lh,le_of_eq→mV
open List renaming getElem?_cons_succ→jM,getElem?_cons_zero→jN,getElem?_toArray→jO,mem_cons→mD,map_cons→mH
open Go.RowKit renaming Below→jS,Hid→jW,intOf→kW
open Go.RowKit.Below renaming refl→jT,heap_setCell→j6
open Bool renaming and_eq_true→j3
open ByteArray renaming size_extract→kz
open Go.World renaming setCell→kC
open Go.Instr renaming index→kR,lookup→lV,makeFunc→mG
open Go.Lit renaming int→lJ
open Go.Sem renaming run→mi
open Int renaming toNat_of_nonneg→mZ
namespace Go.Proofs.YtamfcjmhnndbdaaGreatDoor
set_option linter.unusedVariables false
set_option linter.unusedSimpArgs false
set_option maxRecDepth 100000
set_option maxHeartbeats 8000000
variable {a:jP}{ops:Array lX}{r:RS}{e:Ending}
section
open Go.RowKit
structure vS where
 id:Nat
 name:ByteArray
 body:ByteArray
def wR(R:Except Nat (vS×Nat))(w:jJ)(e:Ending)(w':jJ):Prop:=jS w.heap.size w w'/\match R with
 | .error er=>e=nE (nD #[nC #[ng nI 0,ny ⟨#[]⟩,ny ⟨#[]⟩],ng nH 0,ng nH (er:Nat)])
 | .ok y=>e=nE (nD #[nC #[ng nI y.1.id,ny y.1.name,ny y.1.body],ng nH (y.2:Nat),ng nH 0])
def zG(s:ByteArray)(m most:Int):Nat->Int
 |0=>IK (decide (4<=s.size)) 2
 |1=>IK ((pU (s.extract 0 4).data.toList:Int)==m) 9
 |2=>IK (decide (16<=s.size)) 2
 |3=>IK (Co (s.extract 4 16)).isSome 3
 |4=>IK (decide (20<=s.size)) 2
 |5=>IK (decide ((uZ s:Int)<=most)) 5
 |6=>IK (decide (24<=s.size)) 2
 |7=>IK (decide (24+uZ s<=s.size)) 2
 |8=>IK (Rx (s.extract 24 (24+uZ s)) (s.extract 20 24)) 10
 |_=>0
def xq(f:Nat->Int):Nat->Nat->Int
 |0,_=>0
 |n+1,k=>if f k=0 then xq f n (k+1)else f k
theorem wu{f:Nat->Int}{n k:Nat}(h:f k=0):xq f (n+1) k=xq f n (k+1):=if_pos h
theorem uI{f:Nat->Int}{n k:Nat}(h:f k≠0):xq f (n+1) k=f k:=if_neg h
def uS(s:ByteArray)(m most:Int):Except Nat (vS×Nat):=
 if xq (zG s m most) 9 0=0 then .ok (⟨0,xz s,s.extract 24 (24+uZ s)⟩,24+uZ s)else .error (xq (zG s m most) 9 0).toNat
theorem uJ{b:Bool}{er:Int}(he:er≠0)(h:IK b er=0):b=true:=by
 cases b;.exact absurd h (by simpa [IK]using he)
 .rfl
theorem Py(b:Bool){er:Int}(h:0<=er):0<=IK b er:=by unfold IK;split<;>omega
theorem qY(s:ByteArray)(m most:Int):∀k,0<=zG s m most k:=by
 intro k;unfold zG;split<;>first|exact Py _ nN|exact Int.le_refl _
theorem MP{f:Nat->Int}(h:∀k,0<=f k):∀n k,0<=xq f n k:=by
 intro n;induction n with
 |zero=>intro k;exact Int.le_refl _
 |succ n A=>intro k;unfold xq;split;exact A _;exact h k
abbrev rq:ko:=52
abbrev OO:ko:=9
abbrev InT:ko:=3
abbrev NuT:ko:=187
def Gc(g r:Nat):jP:=.func (.func 133) #[] #[nz (some ⟨g+2,0,none⟩),nz (some ⟨r,0,none⟩)]
structure VK(g:Nat)(w0:jJ)(m most:Int)(s nm:ByteArray)(ln:Int)(W:jJ):Prop where
 bm:nO W g #[ng nJ m] 22
 bo:nO W (g+1) #[ng nH most] InT
 bs:nO W (g+2) #[ny s] OO
 br:nO W (g+3) #[ng nI 0,ny ⟨#[]⟩,ny ⟨#[]⟩] rq
 bn:nO W (g+4) #[ny nm] OO
 bl:nO W (g+5) #[ng nH ln] InT
 bf:nO W (g+6) #[.func (.func 131) #[] #[nz (some ⟨g+2,0,none⟩)]] NuT
 r1:nO W (g+7) #[ng nH 4] InT
 r2:nO W (g+8) #[ng nH 16] InT
 r3:nO W (g+9) #[ng nH 20] InT
 r4:nO W (g+10) #[ng nH 24] InT
 qa:jS g w0 W
section
variable {g:Nat}{w0 W:jJ}{m most ln:Int}{s nm:ByteArray}
theorem VK.below{A:jJ}(h:VK g w0 m most s nm ln W)(hb:jS W.heap.size W A):VK g w0 m most s nm ln A:=
 ⟨Below.blk hb h.bm h.bm.lt,Below.blk hb h.bo h.bo.lt,Below.blk hb h.bs h.bs.lt,Below.blk hb h.br h.br.lt,Below.blk hb h.bn h.bn.lt,Below.blk hb h.bl h.bl.lt,Below.blk hb h.bf h.bf.lt,
  Below.blk hb h.r1 h.r1.lt,Below.blk hb h.r2 h.r2.lt,Below.blk hb h.r3 h.r3.lt,Below.blk hb h.r4 h.r4.lt,h.qa.trans (hb.mono (Nat.le_of_lt h.bm.lt))⟩
theorem VK.a0C(h:VK g w0 m most s nm ln W)(n2:ByteArray):VK g w0 m most s n2 ln (W.setCell ⟨g+4,0,none⟩ (ny n2)):=
 have o:∀{c:Nat}{cs:Array jP}{t:ko},nO W c cs t->c≠g+4->nO (W.setCell ⟨g+4,0,none⟩ (ny n2)) c cs t:=λh hn=>h.setOther hn _
 ⟨o h.bm nK,o h.bo nK,o h.bs nK,o h.br nK,h.bn.set 0 _,o h.bl nK,o h.bf nK,o h.r1 nK,o h.r2 nK,o h.r3 nK,o h.r4 nK,h.qa.setCell (Nat.le_add_right _ _) _⟩
theorem VK.Bq(h:VK g w0 m most s nm ln W)(n2:Int):VK g w0 m most s nm n2 (W.setCell ⟨g+5,0,none⟩ (ng nH n2)):=
 have o:∀{c:Nat}{cs:Array jP}{t:ko},nO W c cs t->c≠g+5->nO (W.setCell ⟨g+5,0,none⟩ (ng nH n2)) c cs t:=λh hn=>h.setOther hn _
 ⟨o h.bm nK,o h.bo nK,o h.bs nK,o h.br nK,o h.bn nK,h.bl.set 0 _,o h.bf nK,o h.r1 nK,o h.r2 nK,o h.r3 nK,o h.r4 nK,h.qa.setCell (Nat.le_add_right _ _) _⟩
end
def Ry(g:Nat):Array jP:=#[Gc g (g+7),.func (.func 135) #[] #[nz (some ⟨g+6,0,none⟩),nz (some ⟨g,0,none⟩)],Gc g (g+8),
 .func (.func 136) #[] #[nz (some ⟨g+2,0,none⟩),nz (some ⟨g+4,0,none⟩)],Gc g (g+9),
 .func (.func 138) #[] #[nz (some ⟨g+6,0,none⟩),nz (some ⟨g+5,0,none⟩),nz (some ⟨g+1,0,none⟩)],Gc g (g+10),
 .func (.func 139) #[] #[nz (some ⟨g+2,0,none⟩),nz (some ⟨g+5,0,none⟩)],
 .func (.func 140) #[] #[nz (some ⟨g+2,0,none⟩),nz (some ⟨g+5,0,none⟩)]]
abbrev VL:ko:=191
theorem wT{w W:jJ}{b:Nat}{cs:Array jP}{t:ko}(h:nO w b cs t)(o:Obj)(he:w.alloc o=W):nO W b cs t:=by subst he;exact h.alloc o
theorem a3i{g:Nat}{w W:jJ}{m most:Int}{s:ByteArray}(hg:w.heap.size=g)(h:(((((((((((w.alloc (nG #[ng nJ m] 22)).alloc (nG #[ng nH most] InT)).alloc (nG #[ny s] OO)).alloc (nG #[ng nI 0,ny ⟨#[]⟩,ny ⟨#[]⟩] rq)).alloc (nG #[ny ⟨#[]⟩] OO)).alloc (nG #[ng nH 0] InT)).alloc
   (nG #[.func (.func 131) #[] #[nz (some ⟨g+2,0,none⟩)]] NuT)).alloc (nG #[ng nH 4] InT)).alloc (nG #[ng nH 16] InT)).alloc (nG #[ng nH 20] InT)).alloc (nG #[ng nH 24] InT)).alloc (nG (Ry g) VL)=W):
  VK g w m most s ⟨#[]⟩ 0 W/\nO W (g+11) (Ry g) VL:=by
 obtain⟨Q,e1⟩:=nT (w.alloc (nG #[ng nJ m] 22));rw[e1]at h;obtain⟨a2,e2⟩:=nT (Q.alloc (nG #[ng nH most] InT));rw[e2]at h;obtain⟨a3,e3⟩:=nT (a2.alloc (nG #[ny s] OO));rw[e3]at h;obtain⟨a4,e4⟩:∃a,a3.alloc (nG #[ng nI 0,ny ⟨#[]⟩,ny ⟨#[]⟩] rq)=a:=⟨_,rfl⟩;rw[e4]at h;obtain⟨a5,e5⟩:∃a,a4.alloc (nG #[ny ⟨#[]⟩] OO)=a:=⟨_,rfl⟩;rw[e5]at h;obtain⟨a6,C⟩:=nT (a5.alloc (nG #[ng nH 0] InT));rw[C]at h;obtain⟨U,E⟩:∃a,a6.alloc (nG #[.func (.func 131) #[] #[nz (some ⟨g+2,0,none⟩)]] NuT)=a:=⟨_,rfl⟩;rw[E]at h;obtain⟨V,I⟩:=nT (U.alloc (nG #[ng nH 4] InT));rw[I]at h;obtain⟨a9,J⟩:=nT (V.alloc (nG #[ng nH 16] InT));rw[J]at h;obtain⟨Y,N⟩:=nT (a9.alloc (nG #[ng nH 20] InT));rw[N]at h;obtain⟨ak,O⟩:=nT (Y.alloc (nG #[ng nH 24] InT));rw[O]at h;have z:∀{u v:jJ}{o:Obj}{n:Nat},u.alloc o=v->u.heap.size=n->v.heap.size=n+1:=λh hn=>by subst h;simp[hn]
 have Z:=z e1 hg;have aa:=z e2 Z;have z3:=z e3 aa;have z4:=z e4 z3;have z5:=z e5 z4;have ae:=z C z5;have af:=z E ae;have ag:=z I af;have z9:=z J ag;have ah:=z N z9;have au:=z O ah;have nb:∀{u v:jJ}{cs:Array jP}{t:ko}{n:Nat},u.alloc (nG cs t)=v->u.heap.size=n->nO v n cs t:=λh hn=>by subst h;rw[<-hn];exact nO.new _ _ _
 have u4:=λ{b:Nat} {cs:Array jP} {t:ko} (A:nO ak b cs t)=>wT A _ h
 have ai:=λ{b:Nat} {cs:Array jP} {t:ko} (A:nO Y b cs t)=>u4 (wT A _ O)
 have aj:=λ{b:Nat} {cs:Array jP} {t:ko} (A:nO a9 b cs t)=>ai (wT A _ N)
 have u9:=λ{b:Nat} {cs:Array jP} {t:ko} (A:nO V b cs t)=>aj (wT A _ J)
 have u8:=λ{b:Nat} {cs:Array jP} {t:ko} (A:nO U b cs t)=>u9 (wT A _ I)
 have u7:=λ{b:Nat} {cs:Array jP} {t:ko} (A:nO a6 b cs t)=>u8 (wT A _ E)
 have u6:=λ{b:Nat} {cs:Array jP} {t:ko} (A:nO a5 b cs t)=>u7 (wT A _ C)
 have u5:=λ{b:Nat} {cs:Array jP} {t:ko} (A:nO a4 b cs t)=>u6 (wT A _ e5)
 have v4:=λ{b:Nat} {cs:Array jP} {t:ko} (A:nO a3 b cs t)=>u5 (wT A _ e4)
 have v3:=λ{b:Nat} {cs:Array jP} {t:ko} (A:nO a2 b cs t)=>v4 (wT A _ e3)
 have v2:=λ{b:Nat} {cs:Array jP} {t:ko} (A:nO Q b cs t)=>v3 (wT A _ e2)
 refine⟨⟨v2 (nb e1 hg),v3 (nb e2 Z),v4 (nb e3 aa),u5 (nb e4 z3),u6 (nb e5 z4),u7 (nb C z5),u8 (nb E ae),u9 (nb I af),aj (nb J ag),ai (nb N z9),u4 (nb O ah),?_⟩,nb h au⟩;subst h O N J I E C e5 e4 e3 e2 e1;have q:=λ(u:jJ) (av:g<=u.heap.size) (b:jS g w u) (o:Obj)=>b.alloc av o
 exact q _ nK (q _ nK (q _ nK (q _ nK (q _ nK (q _ nK (q _ nK (q _ nK (q _ nK (q _ nK (q _ nK (q _ nK (jT _ _) _) _) _) _) _) _) _) _) _) _) _) _
def yj(w:jJ)(g:Nat)(a b c:jP):jJ:=((w.setCell ⟨g,0,none⟩ a).setCell ⟨g,1,none⟩ b).setCell ⟨g,2,none⟩ c
theorem qQ(w:jJ)(g:Nat)(a b c:jP):((w.setCell ⟨g,0,none⟩ a).setCell ⟨g,1,none⟩ b).setCell ⟨g,2,none⟩ c=yj w g a b c:=rfl
theorem qB{w:jJ}{g:Nat}{b c a0 b0 c0:jP}{t:ko}(h:nO w g #[a0,b0,c0] t):nO (yj w g a b c) g #[a,b,c] t:=((h.set 0 _).set 1 _).set 2 _
theorem a3j{s:ByteArray}{m most E v:Int}{w w':jJ}(A:xq (zG s m most) 9 0=E)(he:E=v)(C:v≠0)(hn:0<=v)(hb:jS w.heap.size w w'):
  wR (uS s m most) w (nE (nD #[nC #[ng nI 0,ny ⟨#[]⟩,ny ⟨#[]⟩],ng nH 0,ng nH v])) w':=by
 unfold wR uS;rw[A,he,if_neg C];refine⟨hb,?_⟩;dsimp only;rw[mZ hn]
theorem a3k(a0 A a2 a3 a4 a5 a6 C E:jP)(W:jJ):mi jI (kR VL (nC #[a0,A,a2,a3,a4,a5,a6,C,E]) (ng nH 0)) W=.ok a0 W:=rfl
theorem a3l(a0 A a2 a3 a4 a5 a6 C E:jP)(W:jJ):mi jI (kR VL (nC #[a0,A,a2,a3,a4,a5,a6,C,E]) (ng nH 1)) W=.ok A W:=rfl
theorem a3m(a0 A a2 a3 a4 a5 a6 C E:jP)(W:jJ):mi jI (kR VL (nC #[a0,A,a2,a3,a4,a5,a6,C,E]) (ng nH 2)) W=.ok a2 W:=rfl
theorem a3n(a0 A a2 a3 a4 a5 a6 C E:jP)(W:jJ):mi jI (kR VL (nC #[a0,A,a2,a3,a4,a5,a6,C,E]) (ng nH 3)) W=.ok a3 W:=rfl
theorem a3o(a0 A a2 a3 a4 a5 a6 C E:jP)(W:jJ):mi jI (kR VL (nC #[a0,A,a2,a3,a4,a5,a6,C,E]) (ng nH 4)) W=.ok a4 W:=rfl
theorem a3p(a0 A a2 a3 a4 a5 a6 C E:jP)(W:jJ):mi jI (kR VL (nC #[a0,A,a2,a3,a4,a5,a6,C,E]) (ng nH 5)) W=.ok a5 W:=rfl
theorem a3q(a0 A a2 a3 a4 a5 a6 C E:jP)(W:jJ):mi jI (kR VL (nC #[a0,A,a2,a3,a4,a5,a6,C,E]) (ng nH 6)) W=.ok a6 W:=rfl
theorem a3r(a0 C a2 a3 a4 a5 a6 A E:jP)(W:jJ):mi jI (kR VL (nC #[a0,C,a2,a3,a4,a5,a6,A,E]) (ng nH 7)) W=.ok A W:=rfl
theorem a3s(a0 C a2 a3 a4 a5 a6 E A:jP)(W:jJ):mi jI (kR VL (nC #[a0,C,a2,a3,a4,a5,a6,E,A]) (ng nH 8)) W=.ok A W:=rfl
theorem Cr{p:Prop}(h:p:=by
 obtain⟨r0,r1,r2,z0,z1,z2⟩:=HI3.br.b3;have HQ:=jH (qB (a:=ng nI 0) (b:=ny ⟨#[]⟩) (c:=ny ⟨#[]⟩) HI3.br);have HBL:jW (jS w.heap.size w (yj w3 (g+3) (ng nI 0) (ny ⟨#[]⟩) (ny ⟨#[]⟩))):=jH (hg.symm▸(((HI3.qa.setCell (p:=⟨g+3,0,none⟩) (Nat.le_add_right _ _) _).setCell (p:=⟨g+3,1,none⟩) (Nat.le_add_right _ _) _).setCell (p:=⟨g+3,2,none⟩) (Nat.le_add_right _ _) _));go_wp2_with fail;rw[qQ];obtain⟨d0,d1,d2⟩:=HQ.a3;refine j4 (v:=nD #[nC #[ng nI 0,ny ⟨#[]⟩,ny ⟨#[]⟩],ng nH 0,ng nH v]) (by simp[kK,Tryz.results101,go_sem,d0,d1,d2]) rfl ?_;rw[<-HP.out];exact a3j HE HEV (by simpa using hne) hnn HBL.out):p:=h
theorem Uh(m most:Int)(s:ByteArray)(w:jJ)(aS:(lJ nJ m).wf=true)(aX:most<=65536)(hs:s.size<=j5):
  jV jI 101 #[ng nJ m,ng nH most,ny s] w (wR (uS s m most) w):=by
 have aA:∀(fn:Fn)(first cap:Array jP)(w:jJ),(mG fn first cap).run jI w=.ok (.func fn first cap) w:=λ_ _ _ _=>rfl
 obtain⟨g,hg⟩:=nT w.heap.size;have aj:=jH Kr;have aY:=a3k;have aZ:=a3l;have bg:=a3m;have bq:=a3n;have bu:=a3o;have bz:=a3p;have bA:=a3q;have bB:=a3r;have bC:=a3s;have af:=jH hs;have bD:s.size<=9223372036854775807:=by unfold j5 at hs;omega
 clear hs;obtain⟨aT,au⟩:=nT (wR (uS s m most) w);have HP:=jH au;rw[au];clear au;go_in;go_upto_region 5 with fail;simp only[kP,Nat.reduceAdd];go_wp2_with fail;refine(aj _ _ _).mono ?_;rintro e w2 ⟨rfl,rfl⟩;go_wp2_with fail;refine(aj _ _ _).mono ?_;rintro e w2 ⟨rfl,rfl⟩;go_wp2_with fail;refine(aj _ _ _).mono ?_;rintro e w2 ⟨rfl,rfl⟩;go_wp2_with fail;refine(aj _ _ _).mono ?_;rintro e w2 ⟨rfl,rfl⟩;go_upto_region 6 with fail;simp only[kP,Nat.reduceAdd,hg];refine uV (λW=>VK g w m most s ⟨#[]⟩ 0 W/\nO W (g+11) (Ry g) VL) (a3i hg rfl) ?_;rintro bH ⟨hI0,aa⟩;have aB:=aa.cell 0;have aC:=aa.cell 1;have aD:=aa.cell 2;have aF:=aa.cell 3;have aG:=aa.cell 4;have aH:=aa.cell 5;have aI:=aa.cell 6;have aJ:=aa.cell 7;have aK:=aa.cell 8;simp only[Ry,Gc,jO,jN,jM]at aB aC aD aF aG aH aI aJ aK;have aL:=jH hI0;obtain⟨E,aM⟩:=nT (xq (zG s m most) 9 0);have HE:=jH aM;clear aa hI0 aM aA;go_wp2_with fail;go_loopw [34] (λkv aU=>∃(k:Nat) (nm:ByteArray) (ln:Int),kv=ng nH (k:Int)/\k<=9/\jW (VK g w m most s nm ln aU)/\jW (xq (zG s m most) (9 - k) k=E)/\jW (∀i,i<k->zG s m most i=0)/\jW (3<k->nm=xz s)/\jW (5<k->ln=(uZ s:Nat))) (λkv _=>9 -(kW kv).toNat);case atStart=>exact⟨0,_,_,rfl,nK,aL,HE,jH (λi hi=>absurd hi nK),jH (λh=>absurd h nK),jH (λh=>absurd h nK)⟩
 case round=>
  obtain⟨k,nm,ln,rfl,hk,I,U,V,ae,ah⟩:=hrel;have Z:=jH I.br;clear aB aC aD aF aG aH aI aJ aK;by_cases bE:k<9;case neg=>
   obtain rfl:k=9:=nK;obtain rfl:=ae.out nN;obtain rfl:=ah.out nN;have aN:jW (E=0):=jH U.symm;have aV:24+uZ s<=s.size:=of_decide_eq_true (uJ nN (V 7 nN));have aO:(uZ s:Int)<=most:=of_decide_eq_true (uJ nN (V 5 nN));have ai:jW (wR (uS s m most) w=λe w'=>jS w.heap.size w w'/\e=nE (nD #[nC #[ng nI 0,ny (xz s),ny (s.extract 24 (24+uZ s))],ng nH ((24+uZ s:Nat):Int),ng nH 0])):=jH (by
    unfold wR uS;rw[HE.out,aN.out,if_pos rfl];rfl)
   obtain⟨N,aP⟩:=nT (uZ s);obtain⟨av,ak⟩:=nT (xz s);rw[aP]at aV aO I ai;rw[ak]at I ai;have bI:=I.bs.c0;have bJ:=I.bn.c0;have bK:=I.bl.c0;obtain⟨r0,r1,r2,z0,z1,z2⟩:=I.br.b3;have aW:N<=65536:=nK;clear aP ak Z aO;have HI3:=I;have HBL:jW (jS w.heap.size w (yj wr (g+3) (ng nI 0) (ny av) (ny (s.extract 24 (24+N))))):=jH (hg.symm▸(((HI3.qa.setCell (p:=⟨g+3,0,none⟩) (Nat.le_add_right _ _) _).setCell (p:=⟨g+3,1,none⟩) (Nat.le_add_right _ _) _).setCell (p:=⟨g+3,2,none⟩) (Nat.le_add_right _ _) _));have HQ:=jH (qB (a:=ng nI 0) (b:=ny av) (c:=ny (s.extract 24 (24+N))) HI3.br);have bF:24+(N:Int)<=(s.size:Int):=nK;go_upto_region 13 with fail;go_big_region;go_wp2_with fail;obtain⟨d0,d1,d2⟩:=HQ.a3;rw[qQ];refine j4 (v:=nD #[nC #[ng nI 0,ny av,ny (s.extract 24 (24+N))],ng nH (24+(N:Int)),ng nH 0]) (by simp[kK,Tryz.results101,go_sem,d0,d1,d2]) rfl ?_;rw[<-HP.out,ai.out];exact⟨HBL.drew,nR⟩
  obtain rfl|rfl|rfl|rfl|rfl|rfl|rfl|rfl|rfl:k=0\/k=1\/k=2\/k=3\/k=4\/k=5\/k=6\/k=7\/k=8:=nK
  .
   obtain⟨v,A⟩:=nT (zG s m most 0);have ag:=jH A;have hnn:0<=v:=by rw[<-A];exact qY _ _ _ _
   have C:jW (jV jI 133 #[nz (some ⟨g+2,0,none⟩),nz (some ⟨g+7,0,none⟩)] wr λe w'=>e=nE (ng nH v)/\w'=wr):=jH (by rw[<-A];exact yL s 4 4 (g+2) (g+7) wr (I.bs.cell 0) (I.r1.cell 0) rfl af);by_cases J:v=0
   .subst J
    have O:jW (xq (zG s m most) (9 - 1) 1=E):=jH (by rw[<-U.out];exact(wu A).symm);have Q:jW (∀i,i<1->zG s m most i=0):=jH λi hi=>by
     rcases lh i 0 with h|h
     .exact V i h
     .obtain rfl:i=0:=nK
      exact A
    clear A hnn Z;go_wp2_with fail;refine C.mono ?_;rintro e w3 ⟨rfl,rfl⟩;go_wp2_with fail;go_roundw;case rel=>exact⟨1,nm,ln,rfl,nK,I,O,Q,jH (λh=>absurd h nK),jH (λh=>absurd h nK)⟩
    case measure=>simp[kW]
   .have hne:(v !=0)=true:=by simp[J]
    have HEV:jW (E=v):=jH (by rw[<-U.out];exact(uI (by rw[A];exact J)).trans A);clear A J;go_wp2_with fail;refine C.mono ?_;rintro e w3 ⟨rfl,rfl⟩;have HI3:=I;exact Cr
  .
   have aQ:4<=s.size:=of_decide_eq_true (uJ nN (V 0 nN));obtain⟨v,A⟩:=nT (zG s m most 1);have ag:=jH A;have hnn:0<=v:=by rw[<-A];exact qY _ _ _ _
   have C:jW (jV jI 135 #[nz (some ⟨g+6,0,none⟩),nz (some ⟨g,0,none⟩)] wr λe w'=>e=nE (ng nH v)/\jS wr.heap.size wr w'):=jH (by rw[<-A];exact Px s m (g+2) g (g+6) wr (I.bs.cell 0) I.bs.lt (I.bm.cell 0) I.bm.lt aS (I.bf.cell 0) I.bf.lt aQ af);by_cases J:v=0
   .subst J
    have O:jW (xq (zG s m most) (9 - 2) 2=E):=jH (by rw[<-U.out];exact(wu A).symm);have Q:jW (∀i,i<2->zG s m most i=0):=jH λi hi=>by
     rcases lh i 1 with h|h
     .exact V i h
     .obtain rfl:i=1:=nK
      exact A
    clear A hnn Z;go_wp2_with fail;refine C.mono ?_;rintro e w3 ⟨rfl,Y⟩;have HI3:=jH (I.below Y);clear Y;go_wp2_with fail;go_roundw;case rel=>exact⟨2,nm,ln,rfl,nK,HI3,O,Q,jH (λh=>absurd h nK),jH (λh=>absurd h nK)⟩
    case measure=>simp[kW]
   .have hne:(v !=0)=true:=by simp[J]
    have HEV:jW (E=v):=jH (by rw[<-U.out];exact(uI (by rw[A];exact J)).trans A);clear A J;go_wp2_with fail;refine C.mono ?_;rintro e w3 ⟨rfl,Y⟩;have HI3:=jH (I.below Y);clear Y;exact Cr
  .
   obtain⟨v,A⟩:=nT (zG s m most 2);have ag:=jH A;have hnn:0<=v:=by rw[<-A];exact qY _ _ _ _
   have C:jW (jV jI 133 #[nz (some ⟨g+2,0,none⟩),nz (some ⟨g+8,0,none⟩)] wr λe w'=>e=nE (ng nH v)/\w'=wr):=jH (by rw[<-A];exact yL s 16 16 (g+2) (g+8) wr (I.bs.cell 0) (I.r2.cell 0) rfl af);by_cases J:v=0
   .subst J
    have O:jW (xq (zG s m most) (9 - 3) 3=E):=jH (by rw[<-U.out];exact(wu A).symm);have Q:jW (∀i,i<3->zG s m most i=0):=jH λi hi=>by
     rcases lh i 2 with h|h
     .exact V i h
     .obtain rfl:i=2:=nK
      exact A
    clear A hnn Z;go_wp2_with fail;refine C.mono ?_;rintro e w3 ⟨rfl,rfl⟩;go_wp2_with fail;go_roundw;case rel=>exact⟨3,nm,ln,rfl,nK,I,O,Q,jH (λh=>absurd h nK),jH (λh=>absurd h nK)⟩
    case measure=>simp[kW]
   .have hne:(v !=0)=true:=by simp[J]
    have HEV:jW (E=v):=jH (by rw[<-U.out];exact(uI (by rw[A];exact J)).trans A);clear A J;go_wp2_with fail;refine C.mono ?_;rintro e w3 ⟨rfl,rfl⟩;have HI3:=I;exact Cr
  .
   have ax:16<=s.size:=of_decide_eq_true (uJ nN (V 2 nN));obtain⟨v,A⟩:=nT (zG s m most 3);have ag:=jH A;have hnn:0<=v:=by rw[<-A];exact qY _ _ _ _
   have C:jW (jV jI 136 #[nz (some ⟨g+2,0,none⟩),nz (some ⟨g+4,0,none⟩)] wr λe w'=>e=nE (ng nH v)/\w'=wr.setCell ⟨g+4,0,none⟩ (ny (xz s))):=jH (by rw[<-A];exact Uf s nm (g+2) (g+4) wr (I.bs.cell 0) (I.bn.cell 0) (I.bn.free 0) ax af);by_cases J:v=0
   .subst J
    have O:jW (xq (zG s m most) (9 - 4) 4=E):=jH (by rw[<-U.out];exact(wu A).symm);have Q:jW (∀i,i<4->zG s m most i=0):=jH λi hi=>by
     rcases lh i 3 with h|h
     .exact V i h
     .obtain rfl:i=3:=nK
      exact A
    clear A hnn Z;go_wp2_with fail;refine C.mono ?_;rintro e w3 ⟨rfl,rfl⟩;have HI3:=jH (I.a0C (xz s));generalize wr.setCell ⟨g+4,0,none⟩ (ny (xz s))=w3 at*;go_wp2_with fail;go_roundw;case rel=>exact⟨4,xz s,ln,rfl,nK,HI3,O,Q,jH (λh=>rfl),jH (λh=>absurd h nK)⟩
    case measure=>simp[kW]
   .have hne:(v !=0)=true:=by simp[J]
    have HEV:jW (E=v):=jH (by rw[<-U.out];exact(uI (by rw[A];exact J)).trans A);clear A J;go_wp2_with fail;refine C.mono ?_;rintro e w3 ⟨rfl,rfl⟩;have HI3:=jH (I.a0C (xz s));generalize wr.setCell ⟨g+4,0,none⟩ (ny (xz s))=w3 at*;exact Cr
  .
   obtain⟨v,A⟩:=nT (zG s m most 4);have ag:=jH A;have hnn:0<=v:=by rw[<-A];exact qY _ _ _ _
   have C:jW (jV jI 133 #[nz (some ⟨g+2,0,none⟩),nz (some ⟨g+9,0,none⟩)] wr λe w'=>e=nE (ng nH v)/\w'=wr):=jH (by rw[<-A];exact yL s 20 20 (g+2) (g+9) wr (I.bs.cell 0) (I.r3.cell 0) rfl af);by_cases J:v=0
   .subst J
    have O:jW (xq (zG s m most) (9 - 5) 5=E):=jH (by rw[<-U.out];exact(wu A).symm);have Q:jW (∀i,i<5->zG s m most i=0):=jH λi hi=>by
     rcases lh i 4 with h|h
     .exact V i h
     .obtain rfl:i=4:=nK
      exact A
    clear A hnn Z;go_wp2_with fail;refine C.mono ?_;rintro e w3 ⟨rfl,rfl⟩;go_wp2_with fail;go_roundw;case rel=>exact⟨5,nm,ln,rfl,nK,I,O,Q,jH (λh=>ae.out nK),jH (λh=>absurd h nK)⟩
    case measure=>simp[kW]
   .have hne:(v !=0)=true:=by simp[J]
    have HEV:jW (E=v):=jH (by rw[<-U.out];exact(uI (by rw[A];exact J)).trans A);clear A J;go_wp2_with fail;refine C.mono ?_;rintro e w3 ⟨rfl,rfl⟩;have HI3:=I;exact Cr
  .
   have ay:20<=s.size:=of_decide_eq_true (uJ nN (V 4 nN));obtain⟨v,A⟩:=nT (zG s m most 5);have ag:=jH A;have hnn:0<=v:=by rw[<-A];exact qY _ _ _ _
   have C:jW (jV jI 138 #[nz (some ⟨g+6,0,none⟩),nz (some ⟨g+5,0,none⟩),nz (some ⟨g+1,0,none⟩)] wr λe w'=>e=nE (ng nH v)/\w'=wr.setCell ⟨g+5,0,none⟩ (ng nH (uZ s:Nat))):=jH (by rw[<-A];exact Wv s most ln (g+2) (g+6) (g+5) (g+1) wr (I.bs.cell 0) (I.bf.cell 0) I.bl I.bo nK ay af);by_cases J:v=0
   .subst J
    have O:jW (xq (zG s m most) (9 - 6) 6=E):=jH (by rw[<-U.out];exact(wu A).symm);have Q:jW (∀i,i<6->zG s m most i=0):=jH λi hi=>by
     rcases lh i 5 with h|h
     .exact V i h
     .obtain rfl:i=5:=nK
      exact A
    clear A hnn Z;go_wp2_with fail;refine C.mono ?_;rintro e w3 ⟨rfl,rfl⟩;have HI3:=jH (I.Bq (uZ s:Nat));generalize wr.setCell ⟨g+5,0,none⟩ (ng nH (uZ s:Nat))=w3 at*;go_wp2_with fail;go_roundw;case rel=>exact⟨6,nm,(uZ s:Nat),rfl,nK,HI3,O,Q,jH (λh=>ae.out nK),jH (λh=>rfl)⟩
    case measure=>simp[kW]
   .have hne:(v !=0)=true:=by simp[J]
    have HEV:jW (E=v):=jH (by rw[<-U.out];exact(uI (by rw[A];exact J)).trans A);clear A J;go_wp2_with fail;refine C.mono ?_;rintro e w3 ⟨rfl,rfl⟩;have HI3:=jH (I.Bq (uZ s:Nat));generalize wr.setCell ⟨g+5,0,none⟩ (ng nH (uZ s:Nat))=w3 at*;exact Cr
  .
   obtain⟨v,A⟩:=nT (zG s m most 6);have ag:=jH A;have hnn:0<=v:=by rw[<-A];exact qY _ _ _ _
   have C:jW (jV jI 133 #[nz (some ⟨g+2,0,none⟩),nz (some ⟨g+10,0,none⟩)] wr λe w'=>e=nE (ng nH v)/\w'=wr):=jH (by rw[<-A];exact yL s 24 24 (g+2) (g+10) wr (I.bs.cell 0) (I.r4.cell 0) rfl af);by_cases J:v=0
   .subst J
    have O:jW (xq (zG s m most) (9 - 7) 7=E):=jH (by rw[<-U.out];exact(wu A).symm);have Q:jW (∀i,i<7->zG s m most i=0):=jH λi hi=>by
     rcases lh i 6 with h|h
     .exact V i h
     .obtain rfl:i=6:=nK
      exact A
    clear A hnn Z;go_wp2_with fail;refine C.mono ?_;rintro e w3 ⟨rfl,rfl⟩;go_wp2_with fail;go_roundw;case rel=>exact⟨7,nm,ln,rfl,nK,I,O,Q,jH (λh=>ae.out nK),jH (λh=>ah.out nK)⟩
    case measure=>simp[kW]
   .have hne:(v !=0)=true:=by simp[J]
    have HEV:jW (E=v):=jH (by rw[<-U.out];exact(uI (by rw[A];exact J)).trans A);clear A J;go_wp2_with fail;refine C.mono ?_;rintro e w3 ⟨rfl,rfl⟩;have HI3:=I;exact Cr
  .
   obtain rfl:=ah.out nN;have az:24<=s.size:=of_decide_eq_true (uJ nN (V 6 nN));obtain⟨v,A⟩:=nT (zG s m most 7);have ag:=jH A;have hnn:0<=v:=by rw[<-A];exact qY _ _ _ _
   have C:jW (jV jI 139 #[nz (some ⟨g+2,0,none⟩),nz (some ⟨g+5,0,none⟩)] wr λe w'=>e=nE (ng nH v)/\w'=wr):=jH (by rw[<-A];exact Ug s (uZ s) (g+2) (g+5) wr (I.bs.cell 0) (I.bl.cell 0) az af);by_cases J:v=0
   .subst J
    have O:jW (xq (zG s m most) (9 - 8) 8=E):=jH (by rw[<-U.out];exact(wu A).symm);have Q:jW (∀i,i<8->zG s m most i=0):=jH λi hi=>by
     rcases lh i 7 with h|h
     .exact V i h
     .obtain rfl:i=7:=nK
      exact A
    clear A hnn Z;go_wp2_with fail;refine C.mono ?_;rintro e w3 ⟨rfl,rfl⟩;go_wp2_with fail;go_roundw;case rel=>exact⟨8,nm,_,rfl,nK,I,O,Q,jH (λh=>ae.out nK),jH (λh=>rfl)⟩
    case measure=>simp[kW]
   .have hne:(v !=0)=true:=by simp[J]
    have HEV:jW (E=v):=jH (by rw[<-U.out];exact(uI (by rw[A];exact J)).trans A);clear A J;go_wp2_with fail;refine C.mono ?_;rintro e w3 ⟨rfl,rfl⟩;have HI3:=I;exact Cr
  .
   obtain rfl:=ah.out nN;have aR:24+uZ s<=s.size:=of_decide_eq_true (uJ nN (V 7 nN));have bG:(uZ s:Int)<=most:=of_decide_eq_true (uJ nN (V 5 nN));obtain⟨v,A⟩:=nT (zG s m most 8);have ag:=jH A;have hnn:0<=v:=by rw[<-A];exact qY _ _ _ _
   have C:jW (jV jI 140 #[nz (some ⟨g+2,0,none⟩),nz (some ⟨g+5,0,none⟩)] wr λe w'=>e=nE (ng nH v)/\jS wr.heap.size wr w'):=jH (by rw[<-A];exact Ww s (uZ s) (g+2) (g+5) wr (I.bs.cell 0) I.bs.lt (I.bl.cell 0) I.bl.lt aR nK af);by_cases J:v=0
   .subst J
    have O:jW (xq (zG s m most) (9 - 9) 9=E):=jH (by rw[<-U.out];exact(wu A).symm);have Q:jW (∀i,i<9->zG s m most i=0):=jH λi hi=>by
     rcases lh i 8 with h|h
     .exact V i h
     .obtain rfl:i=8:=nK
      exact A
    clear A hnn Z;go_wp2_with fail;refine C.mono ?_;rintro e w3 ⟨rfl,Y⟩;have HI3:=jH (I.below Y);clear Y;go_wp2_with fail;go_roundw;case rel=>exact⟨9,nm,_,rfl,nK,HI3,O,Q,jH (λh=>ae.out nK),jH (λh=>rfl)⟩
    case measure=>simp[kW]
   .have hne:(v !=0)=true:=by simp[J]
    have HEV:jW (E=v):=jH (by rw[<-U.out];exact(uI (by rw[A];exact J)).trans A);clear A J;go_wp2_with fail;refine C.mono ?_;rintro e w3 ⟨rfl,Y⟩;have HI3:=jH (I.below Y);clear Y;exact Cr
end
section
open Go.RowKit Go.Maps
structure DX(P:mK)(k:ko)(κ:Type) where
 kv:κ->jP
 kl:κ->Lit
 ok:κ->Prop
 K:Keyed P k
 lay:∀x,ok x->keyOf P k (kv x)=some (kl x)
 inv:∀v l,keyOf P k v=some l->∃x,v=kv x/\l=kl x
 inj:∀x y,kl x=kl y->x=y
 key:∀x,WideAt.IsKeyLit (kl x)
structure Gd(X:Type) where
 ev:X->jP
 R:jP->Option (DataW X×List MemPlace)
 lay:∀x,R (ev x)=some (.held x,[])
 inv:∀v z,R v=some z->∃x,v=ev x/\z=(.held x,[])
section
variable {P:mK}{k e t:ko}{κ X:Type}
def qA(E:DX P k κ)(F:Gd X)(w:jJ)(b n:Nat)(l:List (κ×X)):Prop:=
 ∃A,w.ownsMap P k F.R b n (.map A)/\A.Perm (l.map λp=>(E.kl p.1,.held p.2))/\(l.map Prod.fst).Nodup/\∀p∈l,E.ok p.1
variable {E:DX P k κ}{F:Gd X}{w:jJ}{b n:Nat}{l:List (κ×X)}
theorem qA.made(E:DX P k κ)(F:Gd X)(w:jJ):qA E F (w.alloc (.map #[] 0)) w.heap.size 0 []:=
 ⟨[],World.ownsMap_made w P k F.R,.refl _,List.nodup_nil,λp hp=>by cases hp⟩
theorem qA.lt(h:qA E F w b n l):b<w.heap.size:=let ⟨_,h,_⟩:=h;h.lt
theorem qA.block{w':jJ}(h:qA E F w b n l)(hb:w'.heap[b]? =w.heap[b]?):qA E F w' b n l:=by
 obtain⟨D,⟨C,A,I,r⟩,J⟩:=h;exact⟨D,⟨C,A,by rw[hb];exact I,r⟩,J⟩
theorem qA.below{w':jJ}(h:qA E F w b n l)(hb:jS w.heap.size w w'):qA E F w' b n l:=h.block (hb.block b h.lt)
theorem qA.up(h:qA E F w b n l){m:Nat}(A:n<=m):qA E F w b m l:=let ⟨D,hD,r⟩:=h;⟨D,hD.mono A,r⟩
theorem a3t{A:List (Lit×DataW X)}(C:A.Perm (l.map λp=>(E.kl p.1,.held p.2))){x:κ}{d:DataW X}(h:(E.kl x,d)∈A):∃y,d=.held y/\(x,y)∈l:=by
 obtain⟨p,hp,he⟩:=List.mem_map.1 (C.mem_iff.1 h);simp only[Prod.mk.injEq]at he;obtain⟨a,y⟩:=p;obtain rfl:a=x:=E.inj _ _ he.1;exact⟨y,he.2.symm,hp⟩
theorem Kt{l:List (κ×X)}(h:(l.map Prod.fst).Nodup)(f:κ×X->Bool):((l.filter f).map Prod.fst).Nodup:=h.sublist (List.filter_sublist.map _)
end
section
variable {P:mK}{k e t:ko}{κ X:Type}[DecidableEq κ]{E:DX P k κ}{F:Gd X}{w:jJ}{b n:Nat}{l:List (κ×X)}
def uK(l:List (κ×X))(x:κ):Option X:=(l.find? λp=>p.1==x).map Prod.snd
theorem Jh{l:List (κ×X)}(hn:(l.map Prod.fst).Nodup){x:κ}{y:X}:uK l x=some y<->(x,y)∈l:=by
 unfold uK;constructor
 .intro h
  obtain⟨p,hp,rfl⟩:=Option.map_eq_some_iff.1 h;have C:=List.find?_some hp;have E:=List.mem_of_find?_eq_some hp;obtain⟨a,b⟩:=p;have:a=x:=by simpa using C
  subst this;exact E
 .intro h
  induction l with
  |nil=>cases h
  |cons p l I=>
   rw[mH,List.nodup_cons]at hn;rw[List.find?_cons];rcases mD.1 h with rfl|h
   .simp
   .have A:(p.1==x)=false:=by
     rw[beq_eq_false_iff_ne];rintro rfl;exact hn.1 (List.mem_map.2 ⟨(p.1,y),h,rfl⟩)
    rw[A];exact I hn.2 h
theorem Ui{l:List (κ×X)}{x:κ}:uK l x=none<->x∉l.map Prod.fst:=by
 unfold uK;rw[Option.map_eq_none_iff,List.find?_eq_none,List.mem_map];constructor;.rintro h ⟨p,hp,rfl⟩;exact h p hp nR
 .intro h p hp he;exact h ⟨p,hp,by simpa using he⟩
theorem qA.at_{A:List (Lit×DataW X)}(C:A.Perm (l.map λp=>(E.kl p.1,.held p.2)))(hn:(l.map Prod.fst).Nodup)(x:κ)(z:X):
  (DataW.map A).atKey (E.kl x) (.held z)=.held ((uK l x).getD z)/\Maps.has (.map A) (E.kl x)=(uK l x).isSome:=by
 cases hg:uK l x with
 |none=>
  have I:∀p∈A,p.1.sameKey (E.kl x)=false:=by
   intro p hp;obtain⟨q,O,rfl⟩:=List.mem_map.1 (C.mem_iff.1 hp);apply sameKey_ne;intro he;exact Ui.1 hg (List.mem_map.2 ⟨q,O,E.inj _ _ he⟩)
  constructor
  .show(match A.find? (λp=>p.1.sameKey (E.kl x))with|some p=>p.2|none=> .held z)=_
   rw[List.find?_eq_none.2 (λp hp=>by rw[I p hp];decide)];rfl
  .rw[Maps.has_eq]
   rw[Option.isSome_none,List.any_eq_false];intro p hp;rw[I p hp];decide
 |some y=>
  have hin:(E.kl x,DataW.held y)∈A:=C.mem_iff.2 (List.mem_map.2 ⟨(x,y),(Jh hn).1 hg,rfl⟩);constructor
  .show(match A.find? (λp=>p.1.sameKey (E.kl x))with|some p=>p.2|none=> .held z)=_
   cases J:A.find? (λp=>p.1.sameKey (E.kl x))with
   |none=>
    have:=List.find?_eq_none.1 J _ hin;exact absurd (WideAt.sameKey_self (E.key x)) this
   |some p=>
    obtain⟨Q,Y⟩:=p;have U:=List.find?_some J;have V:=List.mem_of_find?_eq_some J;obtain rfl:Q=E.kl x:=WideAt.sameKey_eq U;obtain⟨Z,rfl,N⟩:=a3t C V;have:=(Jh hn).2 N;rw[hg]at this;cases this;rfl
  .rw[Maps.has_eq,Option.isSome_some,List.any_eq_true]
   exact⟨_,hin,WideAt.sameKey_self (E.key x)⟩
theorem qA.look(h:qA E F w b n l)(ht:P.underlying t=some (.map k e)){z:X}(N:∀w,(zeroValue e).run P w=.ok (F.ev z) w){x:κ}(O:E.ok x):
  (lV t (.map (some b)) (E.kv x) false).run P w=.ok (F.ev ((uK l x).getD z)) w:=by
 obtain⟨U,Q,C,hn,_⟩:=h;obtain⟨v,ps,A,I⟩:=Q.lookup E.K ht (N w) (F.lay z) (E.lay x O);rw[(qA.at_ C hn x z).1]at I;obtain⟨y,rfl,J⟩:=F.inv _ _ I;simp only[Prod.mk.injEq,DataW.held.injEq]at J;rw[A,J.1]
theorem qA.look_ok(h:qA E F w b n l)(ht:P.underlying t=some (.map k e)){z:X}(N:∀w,(zeroValue e).run P w=.ok (F.ev z) w){x:κ}(O:E.ok x):
  (lV t (.map (some b)) (E.kv x) true).run P w=.ok (nD #[F.ev ((uK l x).getD z),nA (uK l x).isSome]) w:=by
 obtain⟨U,Q,C,hn,_⟩:=h;obtain⟨v,ps,A,I⟩:=Q.look_ok E.K ht (N w) (F.lay z) (E.lay x O);rw[(qA.at_ C hn x z).1]at I;rw[(qA.at_ C hn x z).2]at A;obtain⟨y,rfl,J⟩:=F.inv _ _ I;simp only[Prod.mk.injEq,DataW.held.injEq]at J;rw[A,J.1]
theorem Pz(x:κ)(l:List (κ×X)):(l.map λp=>(E.kl p.1,DataW.held p.2)).filter (λp=> !p.1.sameKey (E.kl x))=(l.filter λp=>p.1 !=x).map λp=>(E.kl p.1,DataW.held p.2):=by
 rw[List.filter_map];congr 1;apply List.filter_congr;intro p _;show(!(E.kl p.1).sameKey (E.kl x))=(p.1 !=x);by_cases h:p.1=x;.subst h;rw[WideAt.sameKey_self (E.key _)];simp
 .rw[sameKey_ne (λhe=>h (E.inj _ _ he))];simp[bne,h]
theorem qA.store(h:qA E F w b n l)(ht:P.underlying t=some (.map k e)){x:κ}(C:E.ok x)(y:X)(hn:n<j5):
  ∃w',(Instr.mapUpdate t (.map (some b)) (E.kv x) (F.ev y)).run P w=.ok () w'/\qA E F w' b (n+1) ((x,y)::l.filter λp=>p.1 !=x)/\pE b w w':=by
 obtain⟨Q,O,I,J,hok⟩:=h;obtain⟨w',A,N,hg⟩:=O.update E.K ht hn (E.lay x C) (F.lay y);refine⟨w',A,⟨_,N,?_,?_,?_⟩,hg⟩
 .refine(Go.WideShapes.insert_perm _ _).trans ?_
  rw[mH];refine List.Perm.cons _ ?_;rw[<-Pz];exact I.filter _
 .rw[mH,List.nodup_cons]
  refine⟨?_,Kt J _⟩;rw[List.mem_map];rintro⟨p,hp,he⟩;have:=(List.mem_filter.1 hp).2;rw[he]at this;simp at this
 .intro p hp
  rcases mD.1 hp with rfl|hp
  .exact C
  .exact hok p (List.mem_filter.1 hp).1
theorem xB{rest:List lX}{o:lX}{a:Act}{Q:Exit->Act->jJ->Prop}(hg:o.guard=none)(mo xo C:Operand)(hop:o.op=.mapUpdate t mo xo C)(ht:P.underlying t=some (.map k e))(h:qA E F w b n l)(J:a.eval mo=.map (some b)){x:κ}(N:a.eval xo=E.kv x)(hok:E.ok x){y:X}(O:a.eval C=F.ev y)(hn:n<j5)(U:∀w',qA E F w' b (n+1) ((x,y)::l.filter λp=>p.1 !=x)->pE b w w'->wpList P ops Q rest (a.put o.dst kH) w'):wpList P ops Q (o::rest) a w:=by
 refine wpList_plain hg λV I=> ?_
 obtain⟨w',A,r1,r2⟩:=h.store ht hok y hn;unfold Oper.wp;simp[execOp,hop,J,N,O,A,Result.andThen];exact I _ _ (U w' r1 r2)
end
section
variable {P:mK}{k:ko}{q:IntKind}
def intKeys(hk:P.underlying k=some (.int q)):DX P k Int where
 kv:=ng q
 kl:=.int q
 ok x:=(lJ q x).wf=true
 K:=int_keyed hk
 lay x hx:=keyOf_int_mk hk hx
 inv v l h:=by obtain⟨x,A,C,_⟩:=Maps.keyOf_int_inv hk h;exact⟨x,A,C⟩
 inj x y h:=(Lit.int.inj h).2
 key x:=trivial
def Wx(q:IntKind):Gd Int where
 ev:=ng q
 R v:=match v with| ng A x=>if A=q then some (.held x,[])else none|_=>none
 lay x:=nR
 inv v z h:=by
  cases v<;>simp at h;obtain⟨rfl,rfl⟩:=h;exact⟨_,rfl,rfl⟩
end
section
variable {P:mK}{k e t:ko}{κ X:Type}[DecidableEq κ]{E:DX P k κ}{F:Gd X}{w:jJ}{b n:Nat}{l:List (κ×X)}
theorem qm{rest:List lX}{o:lX}{a:Act}{Q:Exit->Act->jJ->Prop}(hg:o.guard=none)(mo xo C:Operand)(hop:o.op=.insert t mo xo C)(ht:P.underlying t=some (.map k e))(h:qA E F w b n l)(J:a.eval mo=.map (some b)){x:κ}(N:a.eval xo=E.kv x)(hok:E.ok x){y:X}(O:a.eval C=F.ev y)(hn:n<j5)(U:∀w',qA E F w' b (n+1) ((x,y)::l.filter λp=>p.1 !=x)->pE b w w'->wpList P ops Q rest (a.put o.dst kH) w'):wpList P ops Q (o::rest) a w:=by
 refine wpList_plain hg λV I=> ?_
 obtain⟨w',A,r1,r2⟩:=h.store ht hok y hn;unfold Oper.wp;simp[execOp,hop,J,N,O,A,Result.andThen];exact I _ _ (U w' r1 r2)
end
end
section
open Go.RowKit
def ErK:DX jI 36 Int:=intKeys Tryz.underlying36
def ErE:Gd Int:=Wx nH
def Cs(er:Int):Int:=if er=2 then 3 else er
theorem MQ(er:Int):(uK [((2:Int),(3:Int))] er).isSome=(er==2)/\(er=2->(uK [((2:Int),(3:Int))] er).getD 0=3):=by
 unfold uK;by_cases h:er=2;.subst h;exact⟨rfl,λ_=>rfl⟩
 .have A:((2:Int)==er)=false:=nQ
  simp[List.find?,A,h]
theorem a0E(w:jJ):(zeroValue 36).run jI w=.ok (ErE.ev 0) w:=rfl
theorem DY{p:Prop}(h:p:=by
 go_wp2_with fail;go_returns;exact⟨by rw[HE.out];rfl,HB.out⟩):p:=h
theorem IM(er:Int)(w:jJ)(af:(lJ nH er).wf=true):
  jV jI 149 #[ng nH er] w λe w'=>e=nE (ng nH (Cs er))/\jS w.heap.size w w':=by
 have ag:=@run_makeMap jI;obtain⟨g,hg⟩:=nT w.heap.size;have V:=qA.made ErK ErE w;have I:=(jT w.heap.size w).alloc (jL _) (.map #[] 0);rw[hg]at V I;have V:=jH V;have Z:=jH I;rw[hg];obtain⟨R,Y⟩:=nT (Cs er);have aa:=jH Y;rw[Y];clear I Y;go_in;go_upto_region 1 with fail;go_upto_region 2 with(go_loud (refine qm (E:=ErK) (F:=ErE) (x:=(2:Int)) (y:=(3:Int)) rfl _ _ _ rfl Tryz.underlying229 V rfl rfl (show(lJ .i64 2).wf=true by decide) rfl yc ?_);intro w2 J N)
 have HB:jW (jS g w w2):=jH (N.below Z (jL _) (by simp[hg]));have A:=qA.look_ok (x:=er) J Tryz.underlying229 a0E af;have O:=(MQ er).1;have Q:=(MQ er).2;have U:((2:Int),(3:Int))::List.filter (λp=>p.1 !=(2:Int)) ([]:List (Int×Int))=[((2:Int),(3:Int))]:=rfl;rw[U,O]at A;have A:(lV 229 (.map (some g)) (.int .i64 er) true).run jI w2=.ok (.tuple #[.int .i64 ((uK [((2:Int),(3:Int))] er).getD 0),.bool (er==2)]) w2:=A;generalize (uK [((2:Int),(3:Int))] er).getD 0=G at*;by_cases C:er=2
 .have ae:G=3:=Q C
  have hb:(er==2)=true:=by simp[C]
  rw[hb,ae]at A;have HE:jW (R=3):=jH (by rw[<-aa.out];exact if_pos C);clear J N U Q O C hb ae;exact DY
 .have hb:(er==2)=false:=by simp[C]
  rw[hb]at A;have HE:jW (R=er):=jH (by rw[<-aa.out];exact if_neg C);clear J N U Q O C hb;exact DY
theorem Ji:∀(l:List UInt8)(i n:Nat),(om l i n).2.2<=3
 |[],_,_=>by simp[om]
 |b::r,i,n=>by
  unfold om;split;.exact jL _
  .split
   .exact kI _
   .exact Ji r _ _
def Jj(r:RS):Prop:=0<=r.f/\r.f<=5
theorem Jj.take(h:Jj r)(n:Int):Jj (r.take n).1:=by
 refine⟨RS.vE r n h.1,?_⟩;unfold RS.take;split
 .split
  .show(1:Int)<=5;decide
  .split
   .show(2:Int)<=5;decide
   .show(0:Int)<=5;decide
 .exact h.2
theorem Jj.fail(h:Jj r){x:Int}(h0:0<=x)(A:x<=5):Jj (r.fail x):=by
 refine⟨RS.yH r h0 h.1,?_⟩;unfold RS.fail;split;.exact A
 .exact h.2
theorem Jj.byte(h:Jj r):Jj r.byte.1:=by
 refine⟨RS.Ro r h.1,?_⟩;unfold RS.byte;split
 .split
  .show(0:Int)<=5;decide
  .show(2:Int)<=5;decide
 .exact h.2
theorem Jj.elem(h:Jj r)(l:List UInt8)(size:Nat):Jj (rR r l size).1:=by
 have A:∀k v,Jj (rH k v r.byte.1).1:=λk v=>by
  have hb:=h.byte;unfold rH;split
  .split
   .exact hb.take _
   .exact hb
  .split
   .exact hb.take _
   .split
    .exact hb.take _
    .exact hb.take _
 unfold rR uj;split;.exact A _ _
 .split
  .exact(A _ _).fail nN nN
  .split
   .exact(A _ _).take _
   .exact A _ _
theorem Jj.run(size:Nat):∀(f:Nat)(r:RS)(l:List UInt8),Jj r->Jj (wO size f r l).1
 |0,r,l,h=>h
 |f+1,r,l,h=>by
  unfold wO;split;.exact Jj.run size f _ _ (h.elem l size)
  .exact h
theorem Wy(s:ByteArray)(n:Nat):∀er,Cj s n=.error er->1<=er/\er<=1000:=by
 intro er h;unfold Cj at h;have h0:Jj (wO n (s.size+1) (RS.of s) []).1:=Jj.run n _ _ _ ⟨Int.le_refl _,show(0:Int)<=5 by decide⟩;have A:Jj (if(wO n (s.size+1) (RS.of s) []).2.length<n then(wO n (s.size+1) (RS.of s) []).1.fail 2 else(wO n (s.size+1) (RS.of s) []).1):=by
  split;.exact h0.fail nN nN
  .exact h0
 dsimp only at h;generalize (if(wO n (s.size+1) (RS.of s) []).2.length<n then(wO n (s.size+1) (RS.of s) []).1.fail 2 else(wO n (s.size+1) (RS.of s) []).1)=r at*;obtain⟨a,b⟩:=A;split at h
 .rename_i C
  cases h;omega
 .cases h
theorem Wz(n:Int)(mt:Option (Nat×MS)):Ck n mt<=5:=by
 cases mt with
 |none=>show(0:Int)<=5;decide
 |some x=>
  unfold Ck MS.take;dsimp only;split;.show(1:Int)<=5;decide
  .split
   .show(5:Int)<=5;decide
   .show(0:Int)<=5;decide
theorem WA(l:List UInt8):(tT l).2.2<=5:=by
 have:=Ji l 0 0;unfold tT;split
 .split
  .exact jL _
  .omega
 .show(om l 0 0).2.2<=5;omega
theorem Gf(s:ByteArray)(most:Int)(mt:Option (Nat×MS)):∀er,(sj s most mt).1=.error er->1<=er/\er<=1000:=by
 intro er h;have A:=WA s.data.toList;unfold sj at h;generalize tT s.data.toList=t at*;obtain⟨n,k,e⟩:=t;dsimp only at h A;split at h;.cases h;omega
 .split at h
  .cases h;omega
  .have C:=Cm n mt
   have E:=Wz n mt;split at h;.cases h;omega
   .exact Wy _ _ _ h
theorem PD(most:Int)(s:ByteArray):(o9 most s).body.size<=s.size:=by
 unfold o9;split
 .split
  .exact kI _
  .dsimp only
   split;.simp only[kz];omega
   .exact kI _
 .exact kI _
def vN(most A:Int)(s:ByteArray)(mt:Option (Nat×MS)):Except Nat (vS×Nat)×Option (Nat×MS):=
 if(o9 most s).e≠0 then(.error (o9 most s).e,mt)else
 match sj (o9 most s).body A mt with
 |(.error er,m2)=>(.error (Cs (er:Nat)).toNat,m2)
 |(.ok l,m2)=>(.ok (⟨(o9 most s).id,⟨#[]⟩,⟨l.toArray⟩⟩,(o9 most s).n),m2)
def zH(R:Except Nat (vS×Nat)×Option (Nat×MS))(mt:Option (Nat×MS))(w:jJ)(e:Ending)(w':jJ):Prop:=
 w.grownBy w' (oI mt)/\pJ w' R.2/\match R.1 with
 | .error er=>e=nE (nD #[nC #[ng nI 0,ny ⟨#[]⟩,ny ⟨#[]⟩],ng nH 0,ng nH (er:Nat)])
 | .ok y=>e=nE (nD #[nC #[ng nI y.1.id,ny y.1.name,ny y.1.body],ng nH (y.2:Nat),ng nH 0])
theorem zI{mt:Option (Nat×MS)}{w:jJ}(h:pJ w mt):∀x,oI mt=some x->x<w.heap.size:=λx A=>by
 cases mt with
 |none=>cases A
 |some y=>cases A;exact nO.lt h.1
theorem Ct(s:ByteArray)(most:Int)(mt:Option (Nat×MS)):oI (sj s most mt).2=oI mt:=by
 unfold sj;split;split;.rfl
 .split
  .rfl
  .split
   .exact FT _ _
   .exact FT _ _
structure WB(g g2:Nat)(w:jJ)(mt Ir:Option (Nat×MS))(id:Nat)(b:ByteArray)(W:jJ):Prop where
 res:nO W g #[ng nI 0,ny ⟨#[]⟩,ny ⟨#[]⟩] rq
 fr:nO W g2 #[ng nI id,ny ⟨#[]⟩,ny b] rq
 mm:pJ W Ir
 gr:w.grownBy W (oI mt)
 lt:g<g2
section
variable {g g2:Nat}{w W W':jJ}{mt Ir:Option (Nat×MS)}{id:Nat}{b:ByteArray}
theorem WB.below(h:WB g g2 w mt Ir id b W)(hb:jS W.heap.size W W'):WB g g2 w mt Ir id b W':=
 ⟨Below.blk hb h.res h.res.lt,Below.blk hb h.fr h.fr.lt,h.mm.grown hb,pV h.gr (o5 hb),h.lt⟩
theorem o8{row:Option Nat}{c:Nat}{cs:Array jP}{t:ko}(h:nO W c cs t)(hg:W.grownBy W' row)(A:∀x,row=some x->x≠c):nO W' c cs t:=by
 unfold nO;rw[hg.block c h.lt (λe=>A c e.symm rfl)];exact h
theorem WB.grow{m2:Option (Nat×MS)}(h:WB g g2 w mt Ir id b W)(hg:W.grownBy W' (oI mt))(C:pJ W' m2)(hlt:∀x,oI mt=some x->x<g):WB g g2 w mt m2 id b W':=
 ⟨o8 h.res hg (λx A e=>by have:=hlt x A;omega),o8 h.fr hg (λx A e=>by have:=hlt x A;have:=h.lt;omega),C,pV h.gr hg,h.lt⟩
theorem rY{row:Option Nat}{A:jJ}(h:w.grownBy A row){p:l5}(hp:w.heap.size<=p.block)(v:jP):w.grownBy (A.setCell p v) row:=
 ⟨h.os,h.tape,h.output,by simpa [kC]using h.size,λi hi C=>(j6 A p v i nK).trans (h.block i hi C)⟩
theorem xU{A:jJ}{m:Option (Nat×MS)}(h:pJ A m){p:l5}(hp:∀x,oI m=some x->x≠p.block)(v:jP):pJ (A.setCell p v) m:=by
 cases m with
 |none=>trivial
 |some y=>exact⟨nO.setOther h.1 (hp _ rfl) v,h.2⟩
theorem PE{b' c:jP}(h:WB g g2 w mt Ir id b W)(hlt:∀x,oI Ir=some x->x<g)(hg:w.heap.size=g):w.grownBy (yj W g a b' c) (oI mt)/\pJ (yj W g a b' c) Ir:=
 have q:∀i,∀x,oI Ir=some x->x≠(⟨g,i,none⟩:l5).block:=λi x A e=>by have:=hlt x A;simp at e;omega
 have p:∀i,w.heap.size<=(⟨g,i,none⟩:l5).block:=λi=>mV hg
 ⟨rY (p:=⟨g,2,none⟩) (rY (p:=⟨g,1,none⟩) (rY (p:=⟨g,0,none⟩) h.gr (p 0) _) (p 1) _) (p 2) _,xU (xU (xU h.mm (q 0) _) (q 1) _) (q 2) _⟩
theorem WB.setBody(h:WB g g2 w mt Ir id b W)(hlt:∀x,oI Ir=some x->x<g)(hg:w.heap.size=g)(A:ByteArray):WB g g2 w mt Ir id A (W.setCell ⟨g2,2,none⟩ (ny A)):=
 ⟨h.res.setOther (a:=⟨g2,2,none⟩) (by have:=h.lt;simp;omega) _,h.fr.set 2 _,xU h.mm (λx C e=>by have:=hlt x C;have:=h.lt;simp at e;omega) _,rY h.gr (by have:=h.lt;simp;omega) _,h.lt⟩
end
theorem MR(most J:Int)(s:ByteArray)(mt:Option (Nat×MS))(w:jJ)(hs:s.size<=j5)(aT:-9223372036854775808<=most/\most<=9223372036854775807)(aM:J<=65536)(ag:pJ w mt):
  jV jI 111 #[ng nH most,ng nH J,Ja mt,ny s] w (zH (vN most J s mt) mt w):=by
 obtain⟨g,hg⟩:=nT w.heap.size;have ah:=(jT w.heap.size w).alloc (jL _) (nG #[ng nI 0,ny ⟨#[]⟩,ny ⟨#[]⟩] rq);have aD:=jH (nO.new w #[ng nI 0,ny ⟨#[]⟩,ny ⟨#[]⟩] rq);have aF:=jH ah;have ai:(w.alloc (nG #[ng nI 0,ny ⟨#[]⟩,ny ⟨#[]⟩] rq)).heap.size=g+1:=by simp[hg]
 have aj:=jH (FV most s (w.alloc (nG #[ng nI 0,ny ⟨#[]⟩,ny ⟨#[]⟩] rq)) aT hs);have aG:=jH (pJ.grown ag ah);have C:=jH (hg▸zI ag);obtain⟨R,Z⟩:=nT (vN most J s mt);rw[Z];unfold vN at Z;have ak:(o9 most s).body.size<=j5:=kg (PD most s) hs;obtain⟨id,bd,n,er,aH⟩:∃id bd n er,o9 most s=⟨id,bd,n,er⟩:=⟨_,_,_,_,rfl⟩;rw[aH]at aj Z ak;dsimp only at Z ak;have N:=jH Z;have aj:jW (jV jI 106 #[ng nH most,ny s] (w.alloc (nG #[ng nI 0,ny ⟨#[]⟩,ny ⟨#[]⟩] rq)) λe w'=>e=nE (nD #[nC #[ng nI id,ny ⟨#[]⟩,ny bd],ng nH (n:Nat),ng nH (er:Nat)])/\jS (w.alloc (nG #[ng nI 0,ny ⟨#[]⟩,ny ⟨#[]⟩] rq)).heap.size (w.alloc (nG #[ng nI 0,ny ⟨#[]⟩,ny ⟨#[]⟩] rq)) w'):=aj;have aI:jW (∀w2 W,jS (g+1) (w.alloc (nG #[ng nI 0,ny ⟨#[]⟩,ny ⟨#[]⟩] rq)) w2->w2.alloc (nG #[ng nI id,ny ⟨#[]⟩,ny bd] rq)=W->WB g w2.heap.size w mt mt id bd W):=jH λw2 W aK aU=>by
  subst aU;have aV:=aK.alloc (by rw[<-ai];exact aK.size) (nG #[ng nI id,ny ⟨#[]⟩,ny bd] rq);have au:jS (w.alloc (nG #[ng nI 0,ny ⟨#[]⟩,ny ⟨#[]⟩] rq)).heap.size (w.alloc (nG #[ng nI 0,ny ⟨#[]⟩,ny ⟨#[]⟩] rq)) (w2.alloc (nG #[ng nI id,ny ⟨#[]⟩,ny bd] rq)):=by rw[ai];exact aV
  exact⟨Below.blk au (hg▸aD.out) nK,nO.new _ _ _,aG.grown au,pV (o5 aF) (o5 au),by have:=aK.size;omega⟩
 clear ah ag Z aH aD aF aG;go_in;go_upto_region 1 with fail;generalize w.alloc _=w1 at*;go_wp2_with fail;refine aj.mono ?_;rintro e w2 ⟨rfl,av⟩;rw[ai]at av;go_upto_region 2 with fail;have V:=jH (aI w2 _ av rfl);generalize w2.alloc _=w3 at*;generalize w2.heap.size=g2 at*;clear aI av aj;by_cases he:er=0;case neg=>
  have aZ:((er:Int) !=0)=true:=by simp[he]
  have aa:jW (R=(.error er,mt)):=jH (by rw[<-N.out,if_pos he]);clear he N;obtain⟨r0,r1,r2,z0,aN,aO⟩:=V.res.b3;have ax:=jH (qB (a:=ng nI 0) (b:=ny ⟨#[]⟩) (c:=ny ⟨#[]⟩) V.res);have A:=jH (PE (a:=ng nI 0) (b':=ny ⟨#[]⟩) (c:=ny ⟨#[]⟩) V C hg);go_wp2_with fail;rw[qQ];obtain⟨ay,az,aA⟩:=ax.a3;refine j4 (v:=nD #[nC #[ng nI 0,ny ⟨#[]⟩,ny ⟨#[]⟩],ng nH 0,ng nH er]) (by simp[kK,Tryz.results111,go_sem,ay,az,aA]) rfl ?_;rw[aa.out];exact⟨A.1,A.2,rfl⟩
 subst he
 have N:jW (R=match sj bd J mt with
  |(.error er,m2)=>(.error (Cs (er:Nat)).toNat,m2)
  |(.ok l,m2)=>(.ok (⟨id,⟨#[]⟩,⟨l.toArray⟩⟩,n),m2)):=jH (by rw[<-N.out];rfl)
 have ae:=jH (Mq bd J mt w3 ak aM V.mm);have hrow:=Ct bd J mt;have O:=Gf bd J mt;obtain⟨aL,m2,aP⟩:∃aL m2,sj bd J mt=(aL,m2):=⟨_,_,rfl⟩;rw[aP]at ae N hrow O;have Y:jW (∀x,oI m2=some x->x<g):=jH λx aW=>C.out x (hrow▸aW)
 dsimp only at hrow O;have aC:=V.fr.c2;unfold V9 at ae;dsimp only at ae;clear aP hrow;cases aL with
 |error af=>
  have bq:=O af rfl;have aX:=jH (λW=>IM (af:Nat) W (by simp[Lit.wf,IntKind.min,IntKind.max,IntKind.signed,IntKind.bits];omega));have bg:((af:Int) !=0)=true:=nQ;have aQ:0<=Cs (af:Nat):=by unfold Cs;split<;>omega
  have aa:jW (R=(.error (Cs (af:Nat)).toNat,m2)):=N;clear N;generalize Cs (af:Nat)=aY at*;clear O;go_wp2_with fail;refine ae.mono ?_;rintro e w4 ⟨Q,U,rfl⟩;have I:=jH (V.grow Q U C);clear Q U;clear C;have C:=Y;go_wp2_with fail;refine(aX _).mono ?_;rintro e w5 ⟨rfl,aJ⟩;have E:=jH (I.below aJ);clear aJ;obtain⟨r0,r1,r2,z0,aN,aO⟩:=E.res.b3;have ax:=jH (qB (a:=ng nI 0) (b:=ny ⟨#[]⟩) (c:=ny ⟨#[]⟩) E.res);have A:=jH (PE (a:=ng nI 0) (b':=ny ⟨#[]⟩) (c:=ny ⟨#[]⟩) E C hg);go_wp2_with fail;rw[qQ];obtain⟨ay,az,aA⟩:=ax.a3;refine j4 (v:=nD #[nC #[ng nI 0,ny ⟨#[]⟩,ny ⟨#[]⟩],ng nH 0,ng nH aY]) (by simp[kK,Tryz.results111,go_sem,ay,az,aA]) rfl ?_;rw[aa.out];exact⟨A.1,A.2,by dsimp only;rw[mZ aQ]⟩
 |ok l=>
  have aa:jW (R=(.ok (⟨id,⟨#[]⟩,⟨l.toArray⟩⟩,n),m2)):=N;obtain⟨bl,aB⟩:∃bl:ByteArray,(⟨l.toArray⟩:ByteArray)=bl:=⟨_,rfl⟩;rw[aB]at aa;simp only[aB]at ae;clear O aB;go_wp2_with fail;refine ae.mono ?_;rintro e w4 ⟨Q,U,rfl⟩;have I:=jH (V.grow Q U C);clear Q U aC;have aR:=I.fr.c0;have aS:=I.fr.c1;have aC:=I.fr.c2;have f2:=I.fr.free 2;have E:=jH (I.setBody Y hg bl);clear C;have C:=Y;go_upto_region 8 with fail;generalize w4.setCell ⟨g2,2,none⟩ (ny bl)=w5 at*;clear aR aS aC f2;obtain⟨aR,aS,aC⟩:=E.fr.a3;obtain⟨r0,r1,r2,z0,aN,aO⟩:=E.res.b3;have ax:=jH (qB (a:=ng nI id) (b:=ny ⟨#[]⟩) (c:=ny bl) E.res);have A:=jH (PE (a:=ng nI id) (b':=ny ⟨#[]⟩) (c:=ny bl) E C hg);go_wp2_with fail;rw[qQ];obtain⟨ay,az,aA⟩:=ax.a3;refine j4 (v:=nD #[nC #[ng nI id,ny ⟨#[]⟩,ny bl],ng nH n,ng nH 0]) (by simp[kK,Tryz.results111,go_sem,ay,az,aA]) rfl ?_;rw[aa.out];exact⟨A.1,A.2,rfl⟩
structure oK where
 fmt:Int
 mag:Int
 pO:Int
 qj:Int
 dep:Int
 oZ:Int
def oK.cs(c:oK):Array jP:=#[ng nH c.fmt,ng nJ c.mag,ng nH c.pO,ng nH c.qj,ng nH c.dep,ng nH c.oZ]
def oK.v(c:oK):jP:=nC c.cs
def oK.wf(c:oK):Prop:=(lJ nH c.fmt).wf=true/\(lJ nJ c.mag).wf=true/\(lJ nH c.pO).wf=true/\(lJ nH c.qj).wf=true/\(lJ nH c.dep).wf=true/\(lJ nH c.oZ).wf=true
def within(n most:Int):Bool:=decide (1<=n)&&decide (n<=most)
def oM(c:oK):Bool:=within c.fmt 3&&within c.pO 65536&&within c.qj 65536&&within c.dep 16&&within c.oZ 1024
theorem qH{c:oK}(h:oM c=true):(1<=c.fmt/\c.fmt<=3)/\(1<=c.pO/\c.pO<=65536)/\(1<=c.qj/\c.qj<=65536)/\(1<=c.dep/\c.dep<=16)/\(1<=c.oZ/\c.oZ<=1024):=by
 simp only[oM,within,j3,decide_eq_true_eq]at h;omega
abbrev tV:ko:=24
theorem wy{w:jJ}(c:oK){t:ko}:∀W,w.alloc (nG #[ng nH c.fmt,ng nJ c.mag,ng nH c.pO,ng nH c.qj,ng nH c.dep,ng nH c.oZ] t)=W->
  jS w.heap.size w W/\W.cell? ⟨w.heap.size,0,none⟩=some (ng nH c.fmt)/\W.cell? ⟨w.heap.size,1,none⟩=some (ng nJ c.mag)/\W.cell? ⟨w.heap.size,2,none⟩=some (ng nH c.pO)/\
   W.cell? ⟨w.heap.size,3,none⟩=some (ng nH c.qj)/\W.cell? ⟨w.heap.size,4,none⟩=some (ng nH c.dep)/\W.cell? ⟨w.heap.size,5,none⟩=some (ng nH c.oZ):=by
 rintro W rfl;have hb:=nO.new w #[ng nH c.fmt,ng nJ c.mag,ng nH c.pO,ng nH c.qj,ng nH c.dep,ng nH c.oZ] t;exact⟨(jT _ w).alloc (jL _) _,hb.cell 0,hb.cell 1,hb.cell 2,hb.cell 3,hb.cell 4,hb.cell 5⟩
theorem MU(n m:Int)(w:jJ):jV jI 95 #[ng nH n,ng nH m] w λe w'=>e=nE (nA (within n m))/\w'=w:=by
 by_cases A:1<=n
 .by_cases C:n<=m
  .have HR:jW (within n m=true):=jH (by unfold within;rw[decide_eq_true A,decide_eq_true C];rfl)
   exact FW
  .have HR:jW (within n m=false):=jH (by unfold within;rw[decide_eq_true A,decide_eq_false C];rfl)
   exact FW
 .have HR:jW (within n m=false):=jH (by unfold within;rw[decide_eq_false A];rfl)
  exact FW
theorem BH(c:oK)(w:jJ):jV jI 67 #[c.v] w λe w'=>e=nE (nA (oM c))/\jS w.heap.size w w':=by
 have O:=jH (wy (w:=w) c (t:=tV));have C:=jH MU;obtain⟨g,hg⟩:=nT w.heap.size;have I:jW (oM c=(within c.fmt 3&&within c.pO 65536&&within c.qj 65536&&within c.dep 16&&within c.oZ 1024)):=jH rfl;rw[hg]at O⊢;obtain⟨f,m,fr,V,Y,Z⟩:=c;unfold oK.v oK.cs;dsimp only at O I⊢;go_in;go_upto_region 1 with fail;generalize w.alloc _=w1 at*;obtain⟨Q,c0,c1,c2,c3,c4,c5⟩:=O.out _ rfl;have J:=jH Q;clear O Q c1;go_wp2_with fail;refine(C _ _ _).mono ?_;rintro e w2 ⟨rfl,rfl⟩;cases A:within f 3 with
 |false=>
  go_wp2_with fail;go_returns;exact⟨by rw[I.out];simp[A],J.out⟩
 |true=>
  go_wp2_with fail;refine(C _ _ _).mono ?_;rintro e w2 ⟨rfl,rfl⟩;cases E:within fr 65536 with
  |false=>
   go_wp2_with fail;go_returns;exact⟨by rw[I.out];simp[A,E],J.out⟩
  |true=>
   go_wp2_with fail;refine(C _ _ _).mono ?_;rintro e w2 ⟨rfl,rfl⟩;cases N:within V 65536 with
   |false=>
    go_wp2_with fail;go_returns;exact⟨by rw[I.out];simp[A,E,N],J.out⟩
   |true=>
    go_wp2_with fail;refine(C _ _ _).mono ?_;rintro e w2 ⟨rfl,rfl⟩;cases U:within Y 16 with
    |false=>
     go_wp2_with fail;go_returns;exact⟨by rw[I.out];simp[A,E,N,U],J.out⟩
    |true=>
     go_wp2_with fail;refine(C _ _ _).mono ?_;rintro e w2 ⟨rfl,rfl⟩;go_wp2_with fail;go_returns;exact⟨by rw[I.out];simp[A,E,N,U],J.out⟩
def zi:Array jP:=#[.nilFunc,.nilFunc,.nilFunc,.nilFunc,.func (.func 97) #[] #[],.func (.func 98) #[] #[],.func (.func 100) #[] #[],.func (.func 102) #[] #[],.func (.func 96) #[] #[],.func (.func 103) #[] #[],.func (.func 105) #[] #[],.func (.func 107) #[] #[],.func (.func 96) #[] #[],.func (.func 108) #[] #[],.func (.func 110) #[] #[],.func (.func 107) #[] #[]]
theorem Cu(w:jJ):jV jI 68 #[] w λe w'=>e=nE (nC zi)/\jS w.heap.size w w':=by
 have A:=jH (nO.new w zi 142);have I:=jH ((jT w.heap.size w).alloc (jL _) (nG zi 142));unfold zi at*;go_in;go_wp2_with fail;obtain⟨J,N,O,Q,d4,d5,d6,U,d8,d9⟩:=A.a10;have d10:=A.cell 10;have d11:=A.cell 11;have C:=A.cell 12;have d13:=A.cell 13;have d14:=A.cell 14;have E:=A.cell 15;simp only[jO,jN,jM]at d10 d11 C d13 d14 E;refine j4 (v:=nC #[.nilFunc,.nilFunc,.nilFunc,.nilFunc,.func (.func 97) #[] #[],.func (.func 98) #[] #[],.func (.func 100) #[] #[],.func (.func 102) #[] #[],.func (.func 96) #[] #[],.func (.func 103) #[] #[],.func (.func 105) #[] #[],.func (.func 107) #[] #[],.func (.func 96) #[] #[],.func (.func 108) #[] #[],.func (.func 110) #[] #[],.func (.func 107) #[] #[]]) (by simp[kK,Tryz.results68,go_sem,J,N,O,Q,d4,d5,d6,U,d8,d9,d10,d11,C,d13,d14,E]) rfl ⟨rfl,I.out⟩
def wU(f:PF):Except Nat (vS×Nat):=if f.e≠0 then .error f.e else .ok (⟨f.id,⟨#[]⟩,f.body⟩,f.n)
theorem PG{most:Int}{s:ByteArray}(h:(o9 most s).e≠0):o9 most s=PF.bad (o9 most s).e:=by
 unfold o9 at*;split
 .rename_i h0
  rw[if_pos h0]at h;split;.rfl
  .rename_i A
   rw[if_neg A]at h;dsimp only at*;split
   .rename_i C
    rw[if_pos C]at h;exact absurd rfl h
   .rfl
 .rfl
structure Z5(g:Nat)(w:jJ)(mt Ir:Option (Nat×MS))(W:jJ):Prop where
 res:nO W (g+1) #[ng nI 0,ny ⟨#[]⟩,ny ⟨#[]⟩] rq
 mm:pJ W Ir
 gr:w.grownBy W (oI mt)
theorem BI{g:Nat}{w W:jJ}{mt Ir:Option (Nat×MS)}{b c:jP}(h:Z5 g w mt Ir W)(hlt:∀x,oI Ir=some x->x<g)(hg:w.heap.size=g):w.grownBy (yj W (g+1) a b c) (oI mt)/\pJ (yj W (g+1) a b c) Ir:=
 have q:∀i,∀x,oI Ir=some x->x≠(⟨g+1,i,none⟩:l5).block:=λi x A e=>by have:=hlt x A;simp at e;omega
 have p:∀i,w.heap.size<=(⟨g+1,i,none⟩:l5).block:=λi=>by rw[hg];exact kX _
 ⟨rY (p:=⟨g+1,2,none⟩) (rY (p:=⟨g+1,1,none⟩) (rY (p:=⟨g+1,0,none⟩) h.gr (p 0) _) (p 1) _) (p 2) _,xU (xU (xU h.mm (q 0) _) (q 1) _) (q 2) _⟩
theorem A8{R:Except Nat (vS×Nat)}{mt:Option (Nat×MS)}{w w':jJ}(A:pJ w mt)(h:wR R w e w'):zH (R,mt) mt w e w':=
 ⟨o5 h.1,A.grown h.1,h.2⟩
theorem ED(most A:Int)(s:ByteArray)(mt:Option (Nat×MS)):oI (vN most A s mt).2=oI mt:=by
 have:=Ct (o9 most s).body A mt;unfold vN;split;.rfl
 .split
  .rename_i h;rw[h]at this;exact this
  .rename_i h;rw[h]at this;exact this
theorem WC(c:oK)(s:ByteArray)(mt:Option (Nat×MS))(w:jJ)(hs:s.size<=j5)(hc:oM c=true)(aj:c.wf)(Z:pJ w mt):
  jV jI 100 #[c.v,Ja mt,ny s] w (zH (uS s c.mag c.pO,mt) mt w):=by
 obtain⟨⟨aG,aH⟩,⟨aI,ak⟩,⟨aJ,aK⟩,_,_⟩:=qH hc;have ay:∃R,(uS s c.mag c.pO,mt)=R:=⟨_,rfl⟩;have hrow:oI (uS s c.mag c.pO,mt).2=oI mt:=rfl;have A:jW (∀x,oI ((uS s c.mag c.pO,mt)).2=some x->x<w.heap.size):=jH λx aa=>zI Z x (hrow▸aa)
 have Q:jW (oI ((uS s c.mag c.pO,mt)).2=oI mt):=jH hrow;have C:∀W,pJ W mt->jV jI 101 #[ng nJ c.mag,ng nH c.pO,ny s] W (zH (uS s c.mag c.pO,mt) mt W):=λ(W:jJ) (aR:pJ W mt)=>(Uh c.mag c.pO s W aj.2.1 ak hs).mono λe w' h=>A8 aR h
 obtain⟨R,aL⟩:=ay;rw[aL]at C A Q⊢;have C:=jH C;obtain⟨f,m,fr,O,V,Y⟩:=c;unfold oK.v oK.cs;dsimp only at*;have az:=jH (wy (w:=w) ⟨f,m,fr,O,V,Y⟩ (t:=tV));obtain⟨g,hg⟩:=nT w.heap.size;have au:=jH Z;dsimp only at az;rw[hg]at az A;clear aL hc Z aj hs aG aH aI ak aJ aK hrow
 have av:jW (∀aA W,w.alloc (nG #[ng nH f,ng nJ m,ng nH fr,ng nH O,ng nH V,ng nH Y] tV)=aA->aA.alloc (nG #[ng nI 0,ny ⟨#[]⟩,ny ⟨#[]⟩] rq)=W->Z5 g w mt mt W/\
   W.cell? ⟨g,1,none⟩=some (ng nJ m)/\W.cell? ⟨g,2,none⟩=some (ng nH fr)/\W.cell? ⟨g,3,none⟩=some (ng nH O)):=jH λaA W aS aT=>by
  subst aS aT;have aM:=nO.new w #[ng nH f,ng nJ m,ng nH fr,ng nH O,ng nH V,ng nH Y] tV;have aN:=(jT w.heap.size w).alloc (jL _) (nG #[ng nH f,ng nJ m,ng nH fr,ng nH O,ng nH V,ng nH Y] tV);have ae:=aN.alloc nR (nG #[ng nI 0,ny ⟨#[]⟩,ny ⟨#[]⟩] rq);have aU:(w.alloc (nG #[ng nH f,ng nJ m,ng nH fr,ng nH O,ng nH V,ng nH Y] tV)).heap.size=g+1:=by simp[hg]
  have ax:=nO.new (w.alloc (nG #[ng nH f,ng nJ m,ng nH fr,ng nH O,ng nH V,ng nH Y] tV)) #[ng nI 0,ny ⟨#[]⟩,ny ⟨#[]⟩] rq;rw[aU]at ax;have U:=aM.alloc (nG #[ng nI 0,ny ⟨#[]⟩,ny ⟨#[]⟩] rq);rw[hg]at U;exact⟨⟨ax,au.grown ae,o5 ae⟩,U.cell 1,U.cell 2,U.cell 3⟩
 go_in;go_upto_region 1 with fail;obtain⟨hI,aO,aP,aQ⟩:=av.out _ _ rfl rfl;generalize (w.alloc _).alloc _=w2 at*;have af:=jH hI;clear hI av az au;go_wp2_with fail;refine(C _ af.mm).mono ?_;obtain⟨aV,m2⟩:=R;dsimp only at A Q;cases aV with
 |error er=>
  rintro e w3 ⟨E,I,rfl⟩;dsimp only at I;have J:jW (Z5 g w mt m2 w3):=jH ⟨o8 af.res E (λx aa e=>by have:=A.out x (Q.out▸aa);omega),I,pV af.gr E⟩;clear E I aO aP aQ;obtain⟨r0,r1,r2,z0,aW,aX⟩:=J.res.b3;have aB:=jH (qB (a:=ng nI 0) (b:=ny ⟨#[]⟩) (c:=ny ⟨#[]⟩) J.res);have N:=jH (BI (a:=ng nI 0) (b:=ny ⟨#[]⟩) (c:=ny ⟨#[]⟩) J A hg);go_wp2_with fail;rw[qQ];obtain⟨aC,aD,aF⟩:=aB.a3;refine j4 (v:=nD #[nC #[ng nI 0,ny ⟨#[]⟩,ny ⟨#[]⟩],ng nH 0,ng nH (er:Nat)]) (by simp[kK,Tryz.results100,go_sem,aC,aD,aF]) rfl ⟨N.1,N.2,rfl⟩
 |ok y=>
  obtain⟨⟨ag,ah,ai⟩,fn⟩:=y;rintro e w3 ⟨E,I,rfl⟩;dsimp only at I⊢;have J:jW (Z5 g w mt m2 w3):=jH ⟨o8 af.res E (λx aa e=>by have:=A.out x (Q.out▸aa);omega),I,pV af.gr E⟩;clear E I aO aP aQ;obtain⟨r0,r1,r2,z0,aW,aX⟩:=J.res.b3;have aB:=jH (qB (a:=ng nI ag) (b:=ny ah) (c:=ny ai) J.res);have N:=jH (BI (a:=ng nI ag) (b:=ny ah) (c:=ny ai) J A hg);go_wp2_with fail;rw[qQ];obtain⟨aC,aD,aF⟩:=aB.a3;refine j4 (v:=nD #[nC #[ng nI ag,ny ah,ny ai],ng nH (fn:Nat),ng nH 0]) (by simp[kK,Tryz.results100,go_sem,aC,aD,aF]) rfl ⟨N.1,N.2,rfl⟩
theorem WE{most:Int}{s:ByteArray}(h:e=nE (o9 most s).v):match wU (o9 most s)with
 | .error er=>e=nE (nD #[nC #[ng nI 0,ny ⟨#[]⟩,ny ⟨#[]⟩],ng nH 0,ng nH (er:Nat)])
 | .ok y=>e=nE (nD #[nC #[ng nI y.1.id,ny y.1.name,ny y.1.body],ng nH (y.2:Nat),ng nH 0]):=by
 by_cases h0:(o9 most s).e=0
 .have:wU (o9 most s)=.ok (⟨(o9 most s).id,⟨#[]⟩,(o9 most s).body⟩,(o9 most s).n):=if_neg (by simpa using h0)
  rw[this];dsimp only;rw[h];unfold PF.v DJ;rw[h0];rfl
 .have C:wU (o9 most s)=.error (o9 most s).e:=if_pos h0
  rw[C];dsimp only;rw[h];have A:=PG h0;generalize o9 most s=q at*;obtain⟨i,b,n,E⟩:=q;unfold PF.bad at A;cases A;rfl
theorem Uj(c:oK)(s:ByteArray)(mt:Option (Nat×MS))(w:jJ)(hs:s.size<=j5)(hc:oM c=true)(aD:c.wf)(Z:pJ w mt):
  jV jI 105 #[c.v,Ja mt,ny s] w (zH (wU (o9 c.pO s),mt) mt w):=by
 obtain⟨⟨aF,aG⟩,⟨aH,aI⟩,⟨aJ,aK⟩,_,_⟩:=qH hc;have av:∃R,(wU (o9 c.pO s),mt)=R:=⟨_,rfl⟩;have hrow:oI (wU (o9 c.pO s),mt).2=oI mt:=rfl;have A:jW (∀x,oI ((wU (o9 c.pO s),mt)).2=some x->x<w.heap.size):=jH λx aa=>zI Z x (hrow▸aa)
 have Q:jW (oI ((wU (o9 c.pO s),mt)).2=oI mt):=jH hrow;have C:∀W,pJ W mt->jV jI 106 #[ng nH c.pO,ny s] W (zH (wU (o9 c.pO s),mt) mt W):=λ(W:jJ) (aR:pJ W mt)=>(FV c.pO s W nK hs).mono λe w' h=>A8 (R:=wU (o9 c.pO s)) aR ⟨h.2,WE h.1⟩
 obtain⟨R,aL⟩:=av;rw[aL]at C A Q⊢;have C:=jH C;obtain⟨f,m,fr,O,V,Y⟩:=c;unfold oK.v oK.cs;dsimp only at*;have ax:=jH (wy (w:=w) ⟨f,m,fr,O,V,Y⟩ (t:=tV));obtain⟨g,hg⟩:=nT w.heap.size;have aj:=jH Z;dsimp only at ax;rw[hg]at ax A;clear aL hc Z aD hs aF aG aH aI aJ aK hrow
 have ak:jW (∀ay W,w.alloc (nG #[ng nH f,ng nJ m,ng nH fr,ng nH O,ng nH V,ng nH Y] tV)=ay->ay.alloc (nG #[ng nI 0,ny ⟨#[]⟩,ny ⟨#[]⟩] rq)=W->Z5 g w mt mt W/\
   W.cell? ⟨g,1,none⟩=some (ng nJ m)/\W.cell? ⟨g,2,none⟩=some (ng nH fr)/\W.cell? ⟨g,3,none⟩=some (ng nH O)):=jH λay W aS aT=>by
  subst aS aT;have aM:=nO.new w #[ng nH f,ng nJ m,ng nH fr,ng nH O,ng nH V,ng nH Y] tV;have aN:=(jT w.heap.size w).alloc (jL _) (nG #[ng nH f,ng nJ m,ng nH fr,ng nH O,ng nH V,ng nH Y] tV);have ae:=aN.alloc nR (nG #[ng nI 0,ny ⟨#[]⟩,ny ⟨#[]⟩] rq);have aU:(w.alloc (nG #[ng nH f,ng nJ m,ng nH fr,ng nH O,ng nH V,ng nH Y] tV)).heap.size=g+1:=by simp[hg]
  have au:=nO.new (w.alloc (nG #[ng nH f,ng nJ m,ng nH fr,ng nH O,ng nH V,ng nH Y] tV)) #[ng nI 0,ny ⟨#[]⟩,ny ⟨#[]⟩] rq;rw[aU]at au;have U:=aM.alloc (nG #[ng nI 0,ny ⟨#[]⟩,ny ⟨#[]⟩] rq);rw[hg]at U;exact⟨⟨au,aj.grown ae,o5 ae⟩,U.cell 1,U.cell 2,U.cell 3⟩
 go_in;go_upto_region 1 with fail;obtain⟨hI,aO,aP,aQ⟩:=ak.out _ _ rfl rfl;generalize (w.alloc _).alloc _=w2 at*;have af:=jH hI;clear hI ak ax aj;go_wp2_with fail;refine(C _ af.mm).mono ?_;obtain⟨aV,m2⟩:=R;dsimp only at A Q;cases aV with
 |error er=>
  rintro e w3 ⟨E,I,rfl⟩;dsimp only at I;have J:jW (Z5 g w mt m2 w3):=jH ⟨o8 af.res E (λx aa e=>by have:=A.out x (Q.out▸aa);omega),I,pV af.gr E⟩;clear E I aO aP aQ;obtain⟨r0,r1,r2,z0,aW,aX⟩:=J.res.b3;have az:=jH (qB (a:=ng nI 0) (b:=ny ⟨#[]⟩) (c:=ny ⟨#[]⟩) J.res);have N:=jH (BI (a:=ng nI 0) (b:=ny ⟨#[]⟩) (c:=ny ⟨#[]⟩) J A hg);go_wp2_with fail;rw[qQ];obtain⟨aA,aB,aC⟩:=az.a3;refine j4 (v:=nD #[nC #[ng nI 0,ny ⟨#[]⟩,ny ⟨#[]⟩],ng nH 0,ng nH (er:Nat)]) (by simp[kK,Tryz.results105,go_sem,aA,aB,aC]) rfl ⟨N.1,N.2,rfl⟩
 |ok y=>
  obtain⟨⟨ag,ah,ai⟩,fn⟩:=y;rintro e w3 ⟨E,I,rfl⟩;dsimp only at I⊢;have J:jW (Z5 g w mt m2 w3):=jH ⟨o8 af.res E (λx aa e=>by have:=A.out x (Q.out▸aa);omega),I,pV af.gr E⟩;clear E I aO aP aQ;obtain⟨r0,r1,r2,z0,aW,aX⟩:=J.res.b3;have az:=jH (qB (a:=ng nI ag) (b:=ny ah) (c:=ny ai) J.res);have N:=jH (BI (a:=ng nI ag) (b:=ny ah) (c:=ny ai) J A hg);go_wp2_with fail;rw[qQ];obtain⟨aA,aB,aC⟩:=az.a3;refine j4 (v:=nD #[nC #[ng nI ag,ny ah,ny ai],ng nH (fn:Nat),ng nH 0]) (by simp[kK,Tryz.results105,go_sem,aA,aB,aC]) rfl ⟨N.1,N.2,rfl⟩
theorem PH(c:oK)(s:ByteArray)(mt:Option (Nat×MS))(w:jJ)(hs:s.size<=j5)(hc:oM c=true)(aF:c.wf)(Z:pJ w mt):
  jV jI 110 #[c.v,Ja mt,ny s] w (zH (vN c.pO c.qj s mt) mt w):=by
 obtain⟨⟨aG,aH⟩,⟨aI,aJ⟩,⟨aK,aj⟩,_,_⟩:=qH hc;have ax:∃R,(vN c.pO c.qj s mt)=R:=⟨_,rfl⟩;have hrow:oI (vN c.pO c.qj s mt).2=oI mt:=ED _ _ _ _;have A:jW (∀x,oI ((vN c.pO c.qj s mt)).2=some x->x<w.heap.size):=jH λx aa=>zI Z x (hrow▸aa)
 have Q:jW (oI ((vN c.pO c.qj s mt)).2=oI mt):=jH hrow;have C:∀W,pJ W mt->jV jI 111 #[ng nH c.pO,ng nH c.qj,Ja mt,ny s] W (zH (vN c.pO c.qj s mt) mt W):=λ(W:jJ) (aR:pJ W mt)=>MR c.pO c.qj s mt W hs nK aj aR
 obtain⟨R,aL⟩:=ax;rw[aL]at C A Q⊢;have C:=jH C;obtain⟨f,m,fr,O,V,Y⟩:=c;unfold oK.v oK.cs;dsimp only at*;have ay:=jH (wy (w:=w) ⟨f,m,fr,O,V,Y⟩ (t:=tV));obtain⟨g,hg⟩:=nT w.heap.size;have ak:=jH Z;dsimp only at ay;rw[hg]at ay A;clear aL hc Z aF hs aG aH aI aJ aK aj hrow
 have au:jW (∀az W,w.alloc (nG #[ng nH f,ng nJ m,ng nH fr,ng nH O,ng nH V,ng nH Y] tV)=az->az.alloc (nG #[ng nI 0,ny ⟨#[]⟩,ny ⟨#[]⟩] rq)=W->Z5 g w mt mt W/\
   W.cell? ⟨g,1,none⟩=some (ng nJ m)/\W.cell? ⟨g,2,none⟩=some (ng nH fr)/\W.cell? ⟨g,3,none⟩=some (ng nH O)):=jH λaz W aS aT=>by
  subst aS aT;have aM:=nO.new w #[ng nH f,ng nJ m,ng nH fr,ng nH O,ng nH V,ng nH Y] tV;have aN:=(jT w.heap.size w).alloc (jL _) (nG #[ng nH f,ng nJ m,ng nH fr,ng nH O,ng nH V,ng nH Y] tV);have ae:=aN.alloc nR (nG #[ng nI 0,ny ⟨#[]⟩,ny ⟨#[]⟩] rq);have aU:(w.alloc (nG #[ng nH f,ng nJ m,ng nH fr,ng nH O,ng nH V,ng nH Y] tV)).heap.size=g+1:=by simp[hg]
  have av:=nO.new (w.alloc (nG #[ng nH f,ng nJ m,ng nH fr,ng nH O,ng nH V,ng nH Y] tV)) #[ng nI 0,ny ⟨#[]⟩,ny ⟨#[]⟩] rq;rw[aU]at av;have U:=aM.alloc (nG #[ng nI 0,ny ⟨#[]⟩,ny ⟨#[]⟩] rq);rw[hg]at U;exact⟨⟨av,ak.grown ae,o5 ae⟩,U.cell 1,U.cell 2,U.cell 3⟩
 go_in;go_upto_region 1 with fail;obtain⟨hI,aO,aP,aQ⟩:=au.out _ _ rfl rfl;generalize (w.alloc _).alloc _=w2 at*;have af:=jH hI;clear hI au ay ak;go_wp2_with fail;refine(C _ af.mm).mono ?_;obtain⟨aV,m2⟩:=R;dsimp only at A Q;cases aV with
 |error er=>
  rintro e w3 ⟨E,I,rfl⟩;dsimp only at I;have J:jW (Z5 g w mt m2 w3):=jH ⟨o8 af.res E (λx aa e=>by have:=A.out x (Q.out▸aa);omega),I,pV af.gr E⟩;clear E I aO aP aQ;obtain⟨r0,r1,r2,z0,aW,aX⟩:=J.res.b3;have aA:=jH (qB (a:=ng nI 0) (b:=ny ⟨#[]⟩) (c:=ny ⟨#[]⟩) J.res);have N:=jH (BI (a:=ng nI 0) (b:=ny ⟨#[]⟩) (c:=ny ⟨#[]⟩) J A hg);go_wp2_with fail;rw[qQ];obtain⟨aB,aC,aD⟩:=aA.a3;refine j4 (v:=nD #[nC #[ng nI 0,ny ⟨#[]⟩,ny ⟨#[]⟩],ng nH 0,ng nH (er:Nat)]) (by simp[kK,Tryz.results110,go_sem,aB,aC,aD]) rfl ⟨N.1,N.2,rfl⟩
 |ok y=>
  obtain⟨⟨ag,ah,ai⟩,fn⟩:=y;rintro e w3 ⟨E,I,rfl⟩;dsimp only at I⊢;have J:jW (Z5 g w mt m2 w3):=jH ⟨o8 af.res E (λx aa e=>by have:=A.out x (Q.out▸aa);omega),I,pV af.gr E⟩;clear E I aO aP aQ;obtain⟨r0,r1,r2,z0,aW,aX⟩:=J.res.b3;have aA:=jH (qB (a:=ng nI ag) (b:=ny ah) (c:=ny ai) J.res);have N:=jH (BI (a:=ng nI ag) (b:=ny ah) (c:=ny ai) J A hg);go_wp2_with fail;rw[qQ];obtain⟨aB,aC,aD⟩:=aA.a3;refine j4 (v:=nD #[nC #[ng nI ag,ny ah,ny ai],ng nH (fn:Nat),ng nH 0]) (by simp[kK,Tryz.results110,go_sem,aB,aC,aD]) rfl ⟨N.1,N.2,rfl⟩
def qN(c:oK)(s:ByteArray)(mt:Option (Nat×MS)):Except Nat (vS×Nat)×Option (Nat×MS):=
 if c.fmt=1 then(uS s c.mag c.pO,mt)else if c.fmt=2 then(wU (o9 c.pO s),mt)else vN c.pO c.qj s mt
theorem zJ(c:oK)(s:ByteArray)(mt:Option (Nat×MS)):oI (qN c s mt).2=oI mt:=by
 unfold qN;split;.rfl
 .split
  .rfl
  .exact ED _ _ _ _
def WG(k:Nat):jP:=if k=1 then .func (.func 100) #[] #[]else if k=2 then .func (.func 105) #[] #[]else .func (.func 110) #[] #[]
structure Jk(g:Nat)(c:oK)(w:jJ)(mt:Option (Nat×MS))(W:jJ):Prop where
 cf:nO W g #[ng nH c.fmt,ng nJ c.mag,ng nH c.pO,ng nH c.qj,ng nH c.dep,ng nH c.oZ] tV
 res:nO W (g+1) #[ng nI 0,ny ⟨#[]⟩,ny ⟨#[]⟩] rq
 gr:w.grownBy W (oI mt)
section
variable {g:Nat}{c:oK}{w W W':jJ}{mt:Option (Nat×MS)}
theorem Jk.s(h:Jk g c w mt W):Jk g c w mt W/\W.cell? ⟨g,0,none⟩=some (ng nH c.fmt)/\W.cell? ⟨g,1,none⟩=some (ng nJ c.mag)/\W.cell? ⟨g,2,none⟩=some (ng nH c.pO)/\
 W.cell? ⟨g,3,none⟩=some (ng nH c.qj)/\W.cell? ⟨g,4,none⟩=some (ng nH c.dep)/\W.cell? ⟨g,5,none⟩=some (ng nH c.oZ):=⟨h,h.cf.cell 0,h.cf.cell 1,h.cf.cell 2,h.cf.cell 3,h.cf.cell 4,h.cf.cell 5⟩
theorem Jk.below(h:Jk g c w mt W)(hb:jS W.heap.size W W'):Jk g c w mt W':=⟨Below.blk hb h.cf h.cf.lt,Below.blk hb h.res h.res.lt,pV h.gr (o5 hb)⟩
theorem Jk.drew(h:Jk g c w mt W):Jk g c w mt W.drew:=⟨h.cf,h.res,⟨h.gr.os,h.gr.tape,h.gr.output,h.gr.size,h.gr.block⟩⟩
theorem Jk.grow(h:Jk g c w mt W)(hg:W.grownBy W' (oI mt))(hlt:∀x,oI mt=some x->x<g):Jk g c w mt W':=
 ⟨o8 h.cf hg (λx A e=>by have:=hlt x A;omega),o8 h.res hg (λx A e=>by have:=hlt x A;omega),pV h.gr hg⟩
theorem Jk.put(h:Jk g c w mt W){k:Nat}(hk:g+1<k)(A:w.heap.size<=g)(a b d:jP):Jk g c w mt (yj W k a b d):=
 have o:∀{W:jJ}{n:Nat}{cs:Array jP}{t:ko}(i:Nat)(v:jP),nO W n cs t->n≠k->nO (W.setCell ⟨k,i,none⟩ v) n cs t:=λi v h hn=>h.setOther (a:=⟨k,i,none⟩) hn v
 ⟨o 2 _ (o 1 _ (o 0 _ h.cf nK) nK) nK,o 2 _ (o 1 _ (o 0 _ h.res nK) nK) nK, rY (p:=⟨k,2,none⟩) (rY (p:=⟨k,1,none⟩) (rY (p:=⟨k,0,none⟩) h.gr nQ _) nQ _) nQ _⟩
theorem a0F(h:pJ W mt):pJ W.drew mt:=by cases mt<;>exact h
end
theorem Jl{W:jJ}{c:Nat}{b d:jP}{t:ko}(h:nO W c #[a,b,d] t):W.cell? ⟨c,0,none⟩=some a/\W.cell? ⟨c,1,none⟩=some b/\W.cell? ⟨c,2,none⟩=some d/\
  W.frozen? ⟨c,0,none⟩=false/\W.frozen? ⟨c,1,none⟩=false/\W.frozen? ⟨c,2,none⟩=false:=⟨h.cell 0,h.cell 1,h.cell 2,h.free 0,h.free 1,h.free 2⟩
structure WnF(g:Nat)(c:oK)(w:jJ)(mt m2:Option (Nat×MS))(a b d:jP)(k:Nat)(W:jJ):Prop where
 wn:Jk g c w mt W
 fr:nO W k #[a,b,d] rq
 mm:pJ W m2
theorem a0G{g k:Nat}{c:oK}{w W:jJ}{mt m2:Option (Nat×MS)}{b d a0 b0 A:jP}(h:Jk g c w mt W)(C:nO W k #[a0,b0,A] rq)(hk:g+1<k)(E:w.heap.size<=g)(hlt:∀x,oI m2=some x->x<g)(I:pJ W m2):
  WnF g c w mt m2 a b d k (yj W k a b d):=
 have q:∀i,∀x,oI m2=some x->x≠(⟨k,i,none⟩:l5).block:=λi x J e=>by have:=hlt x J;simp at e;omega
 ⟨h.put hk E a b d,qB C,xU (xU (xU I (q 0) _) (q 1) _) (q 2) _⟩
theorem DZ(c:oK)(s:ByteArray)(mt:Option (Nat×MS)):∀er,(qN c s mt).1=.error er->1<=er:=by
 intro er h;unfold qN at h;split at h
 .dsimp only at h
  unfold uS at h;have hn:=MP (qY s c.mag c.pO) 9 0;split at h;.cases h
  .rename_i h0;cases h;omega
 .split at h
  .dsimp only at h
   unfold wU at h;split at h;.rename_i h0;cases h;omega
   .cases h
  .unfold vN at h
   split at h;.rename_i h0;cases h;omega
   .split at h
    .rename_i e m2 A
     have C:=Gf _ _ _ e (by rw[A]);cases h;unfold Cs;split<;>omega
    .cases h
theorem MV(c:oK)(k:Nat)(hk:c.fmt=k)(s:ByteArray)(mt:Option (Nat×MS))(w:jJ)(hs:s.size<=j5)(hc:oM c=true)(A:c.wf)(C:pJ w mt):
  ∃f,WG k=.func (.func f) #[] #[]/\jV jI f #[c.v,Ja mt,ny s] w (zH (qN c s mt) mt w):=by
 have E:=(qH hc).1;obtain rfl|rfl|rfl:k=1\/k=2\/k=3:=nK
 .have:qN c s mt=(uS s c.mag c.pO,mt):=if_pos hk
  rw[this];exact⟨_,rfl,WC c s mt w hs hc A C⟩
 .have:qN c s mt=(wU (o9 c.pO s),mt):=by unfold qN;rw[if_neg nK,if_pos nK]
  rw[this];exact⟨_,rfl,Uj c s mt w hs hc A C⟩
 .have:qN c s mt=vN c.pO c.qj s mt:=by unfold qN;rw[if_neg nK,if_neg nK]
  rw[this];exact⟨_,rfl,PH c s mt w hs hc A C⟩
theorem Rz(W:jJ):mi jI (kR 142 (nC zi) (ng nH 1)) W=.ok (nC #[.func (.func 97) #[] #[],.func (.func 98) #[] #[],.func (.func 100) #[] #[],.func (.func 102) #[] #[]]) W:=rfl
theorem RA(W:jJ):mi jI (kR 142 (nC zi) (ng nH 2)) W=.ok (nC #[.func (.func 96) #[] #[],.func (.func 103) #[] #[],.func (.func 105) #[] #[],.func (.func 107) #[] #[]]) W:=rfl
theorem RB(W:jJ):mi jI (kR 142 (nC zi) (ng nH 3)) W=.ok (nC #[.func (.func 96) #[] #[],.func (.func 108) #[] #[],.func (.func 110) #[] #[],.func (.func 107) #[] #[]]) W:=rfl
theorem PI(a b c d:jP)(W:jJ):mi jI (Instr.field 141 (nC #[a,b,c,d]) 2) W=.ok c W:=rfl
end
end Go.Proofs.YtamfcjmhnndbdaaGreatDoor


