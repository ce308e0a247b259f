/- Part 5 of the proof. -/
import Derived.Test.YtamfcjmhnndbdaaGreatDoorZm00
import Derived.Test.YtamfcjmhnndbdaaGreatDoorZm01
import Derived.Test.YtamfcjmhnndbdaaGreatDoorZm03
import Derived.Test.YtamfcjmhnndbdaaGreatDoorZm04
import Derived.Maps.OwnSet
import Derived.Maps.OwnOps
import Derived.Maps.RangeWalk
import Derived.WalkSpells
import Derived.Deep.CutBlock
import Derived.Deep.DeepCutAuto
open Go.Value renaming agg→nD,bool→nC,int→nk,pointer→nA,string→nz,tuple→nE
open Go.Obj renaming cells→nH
open Go.IntKind renaming i64→nI,u32→nK,u64→nJ
open Go.Ending renaming returned→nG
open Go.Lib renaming hid→jH
open Go.Proofs.Tryz renaming prog→jI
open Go renaming World→jJ,Value→jP,Calls→jV,bodyPost_ret→jZ,maxLen→j3,TypeId→ko,undef→kI,results→kQ,Addr→lH,Oper→lY,Program→ma
open Nat renaming le_refl→jK,le_trans→jY,zero_le→kH,add_assoc→kR,le_succ→kV,lt_or_ge→kZ,le_add_right→lZ,le_of_eq→mR,le_of_lt→mX
open List renaming getElem?_cons_succ→jM,getElem?_cons_zero→jN,getElem?_toArray→jO,mem_cons→mM,map_cons→mQ
open Go.RowKit renaming Below→jS,Hid→jX,intOf→kT
open Go.RowKit.Below renaming refl→jT,heap_setCell→j6
open Bool renaming and_eq_true→j4
open Go.World renaming setCell→kz
open ByteArray renaming size_extract→kC
open Go.Instr renaming index→kS,lookup→lW,makeFunc→mJ
open Go.Lit renaming int→lI
open Go.Sem renaming run→l7
open Int renaming toNat_of_nonneg→mV
open Option renaming none→V,some→U
open Go.Addr renaming mk→Z
namespace Go.Proofs.YtamfcjmhnndbdaaGreatDoor
set_option linter.unusedVariables false
set_option linter.unusedSimpArgs false
set_option maxRecDepth 100000
set_option maxHeartbeats 8000000
variable {a:jP}{ops:Array lY}{r:RS}{e:Ending}
section
open Go.RowKit
structure vP where
 id:Nat
 name:ByteArray
 body:ByteArray
def wL(R:Except Nat (vP×Nat))(w:jJ)(e:Ending)(w':jJ):Prop:=jS w.heap.size w w'/\match R with
 | .error er=>e=nG (nE #[nD #[nk nJ 0,nz ⟨#[]⟩,nz ⟨#[]⟩],nk nI 0,nk nI (er:Nat)])
 | .ok y=>e=nG (nE #[nD #[nk nJ y.1.id,nz y.1.name,nz y.1.body],nk nI (y.2:Nat),nk nI 0])
def zG(s:ByteArray)(m most:Int):Nat->Int
 |0=>Iz (decide (4<=s.size)) 2
 |1=>Iz ((qm (s.extract 0 4).data.toList:Int)==m) 9
 |2=>Iz (decide (16<=s.size)) 2
 |3=>Iz (Cr (s.extract 4 16)).isSome 3
 |4=>Iz (decide (20<=s.size)) 2
 |5=>Iz (decide ((uU s:Int)<=most)) 5
 |6=>Iz (decide (24<=s.size)) 2
 |7=>Iz (decide (24+uU s<=s.size)) 2
 |8=>Iz (Ru (s.extract 24 (24+uU s)) (s.extract 20 24)) 10
 |_=>0
def xg(f:Nat->Int):Nat->Nat->Int
 |0,_=>0
 |n+1,k=>if f k=0 then xg f n (k+1)else f k
theorem vY{f:Nat->Int}{n k:Nat}(h:f k=0):xg f (n+1) k=xg f n (k+1):=if_pos h
theorem uD{f:Nat->Int}{n k:Nat}(h:f k≠0):xg f (n+1) k=f k:=if_neg h
def uP(s:ByteArray)(m most:Int):Except Nat (vP×Nat):=
 if xg (zG s m most) 9 0=0 then .ok (⟨0,xu s,s.extract 24 (24+uU s)⟩,24+uU s)else .error (xg (zG s m most) 9 0).toNat
theorem uE{b:Bool}{er:Int}(he:er≠0)(h:Iz b er=0):b=true:=by
 cases b;.exact absurd h (by simpa [Iz]using he)
 .rfl
theorem Pn(b:Bool){er:Int}(h:0<=er):0<=Iz b er:=by unfold Iz;split<;>omega
theorem q8(s:ByteArray)(m most:Int):∀k,0<=zG s m most k:=by
 intro k;unfold zG;split<;>first|exact Pn _ nO|exact Int.le_refl _
theorem MH{f:Nat->Int}(h:∀k,0<=f k):∀n k,0<=xg f n k:=by
 intro n;induction n with
 |zero=>intro k;exact Int.le_refl _
 |succ n A=>intro k;unfold xg;split;exact A _;exact h k
abbrev rq:ko:=52
abbrev MI:ko:=9
abbrev InT:ko:=3
abbrev NuT:ko:=187
def Gc(g r:Nat):jP:=.func (.func 133) #[] #[nA (U (Z (g+2) 0 V)),nA (U (Z r 0 V))]
structure VI(g:Nat)(w0:jJ)(m most:Int)(s nm:ByteArray)(ln:Int)(W:jJ):Prop where
 bm:nP W g #[nk nK m] 22
 bo:nP W (g+1) #[nk nI most] InT
 bs:nP W (g+2) #[nz s] MI
 br:nP W (g+3) #[nk nJ 0,nz ⟨#[]⟩,nz ⟨#[]⟩] rq
 bn:nP W (g+4) #[nz nm] MI
 bl:nP W (g+5) #[nk nI ln] InT
 bf:nP W (g+6) #[.func (.func 131) #[] #[nA (U (Z (g+2) 0 V))]] NuT
 r1:nP W (g+7) #[nk nI 4] InT
 r2:nP W (g+8) #[nk nI 16] InT
 r3:nP W (g+9) #[nk nI 20] InT
 r4:nP W (g+10) #[nk nI 24] InT
 pR:jS g w0 W
section
variable {g:Nat}{w0 W:jJ}{m most ln:Int}{s nm:ByteArray}
theorem VI.below{A:jJ}(h:VI g w0 m most s nm ln W)(hb:jS W.heap.size W A):VI g w0 m most s nm ln A:=
 ⟨Below.blk hb h.bm h.bm.lt,Below.blk hb h.bo h.bo.lt,Below.blk hb h.bs h.bs.lt,Below.blk hb h.br h.br.lt,Below.blk hb h.bn h.bn.lt,Below.blk hb h.bl h.bl.lt,Below.blk hb h.bf h.bf.lt,
  Below.blk hb h.r1 h.r1.lt,Below.blk hb h.r2 h.r2.lt,Below.blk hb h.r3 h.r3.lt,Below.blk hb h.r4 h.r4.lt,h.pR.trans (hb.mono (mX h.bm.lt))⟩
theorem VI.a0I(h:VI g w0 m most s nm ln W)(n2:ByteArray):VI g w0 m most s n2 ln (W.setCell (Z (g+4) 0 V) (nz n2)):=
 have o:∀{c:Nat}{cs:Array jP}{t:ko},nP W c cs t->c≠g+4->nP (W.setCell (Z (g+4) 0 V) (nz n2)) c cs t:=λh hn=>h.setOther hn _
 ⟨o h.bm nL,o h.bo nL,o h.bs nL,o h.br nL,h.bn.set 0 _,o h.bl nL,o h.bf nL,o h.r1 nL,o h.r2 nL,o h.r3 nL,o h.r4 nL,h.pR.setCell (lZ _ _) _⟩
theorem VI.Bv(h:VI g w0 m most s nm ln W)(n2:Int):VI g w0 m most s nm n2 (W.setCell (Z (g+5) 0 V) (nk nI n2)):=
 have o:∀{c:Nat}{cs:Array jP}{t:ko},nP W c cs t->c≠g+5->nP (W.setCell (Z (g+5) 0 V) (nk nI n2)) c cs t:=λh hn=>h.setOther hn _
 ⟨o h.bm nL,o h.bo nL,o h.bs nL,o h.br nL,o h.bn nL,h.bl.set 0 _,o h.bf nL,o h.r1 nL,o h.r2 nL,o h.r3 nL,o h.r4 nL,h.pR.setCell (lZ _ _) _⟩
end
def Rv(g:Nat):Array jP:=#[Gc g (g+7),.func (.func 135) #[] #[nA (U (Z (g+6) 0 V)),nA (U (Z g 0 V))],Gc g (g+8),
 .func (.func 136) #[] #[nA (U (Z (g+2) 0 V)),nA (U (Z (g+4) 0 V))],Gc g (g+9),
 .func (.func 138) #[] #[nA (U (Z (g+6) 0 V)),nA (U (Z (g+5) 0 V)),nA (U (Z (g+1) 0 V))],Gc g (g+10),
 .func (.func 139) #[] #[nA (U (Z (g+2) 0 V)),nA (U (Z (g+5) 0 V))],
 .func (.func 140) #[] #[nA (U (Z (g+2) 0 V)),nA (U (Z (g+5) 0 V))]]
abbrev VJ:ko:=191
theorem wM{w W:jJ}{b:Nat}{cs:Array jP}{t:ko}(h:nP w b cs t)(o:Obj)(he:w.alloc o=W):nP W b cs t:=by subst he;exact h.alloc o
theorem a3x{g:Nat}{w W:jJ}{m most:Int}{s:ByteArray}(hg:w.heap.size=g)(h:(((((((((((w.alloc (nH #[nk nK m] 22)).alloc (nH #[nk nI most] InT)).alloc (nH #[nz s] MI)).alloc (nH #[nk nJ 0,nz ⟨#[]⟩,nz ⟨#[]⟩] rq)).alloc (nH #[nz ⟨#[]⟩] MI)).alloc (nH #[nk nI 0] InT)).alloc
   (nH #[.func (.func 131) #[] #[nA (U (Z (g+2) 0 V))]] NuT)).alloc (nH #[nk nI 4] InT)).alloc (nH #[nk nI 16] InT)).alloc (nH #[nk nI 20] InT)).alloc (nH #[nk nI 24] InT)).alloc (nH (Rv g) VJ)=W):
  VI g w m most s ⟨#[]⟩ 0 W/\nP W (g+11) (Rv g) VJ:=by
 obtain⟨a1,e1⟩:=nV (w.alloc (nH #[nk nK m] 22));rw[e1]at h;obtain⟨a2,e2⟩:=nV (a1.alloc (nH #[nk nI most] InT));rw[e2]at h;obtain⟨a3,e3⟩:=nV (a2.alloc (nH #[nz s] MI));rw[e3]at h;obtain⟨a4,e4⟩:∃a,a3.alloc (nH #[nk nJ 0,nz ⟨#[]⟩,nz ⟨#[]⟩] rq)=a:=⟨_,rfl⟩;rw[e4]at h;obtain⟨a5,e5⟩:∃a,a4.alloc (nH #[nz ⟨#[]⟩] MI)=a:=⟨_,rfl⟩;rw[e5]at h;obtain⟨a6,C⟩:=nV (a5.alloc (nH #[nk nI 0] InT));rw[C]at h;obtain⟨Q,E⟩:∃a,a6.alloc (nH #[.func (.func 131) #[] #[nA (U (Z (g+2) 0 V))]] NuT)=a:=⟨_,rfl⟩;rw[E]at h;obtain⟨Y,I⟩:=nV (Q.alloc (nH #[nk nI 4] InT));rw[I]at h;obtain⟨a9,J⟩:=nV (Y.alloc (nH #[nk nI 16] InT));rw[J]at h;obtain⟨aa,N⟩:=nV (a9.alloc (nH #[nk nI 20] InT));rw[N]at h;obtain⟨av,O⟩:=nV (aa.alloc (nH #[nk nI 24] InT));rw[O]at h;have z:∀{u v:jJ}{o:Obj}{n:Nat},u.alloc o=v->u.heap.size=n->v.heap.size=n+1:=λh hn=>by subst h;simp[hn]
 have ae:=z e1 hg;have af:=z e2 ae;have z3:=z e3 af;have z4:=z e4 z3;have z5:=z e5 z4;have ag:=z C z5;have ah:=z E ag;have ai:=z I ah;have z9:=z J ai;have aj:=z N z9;have ax:=z O aj;have nb:∀{u v:jJ}{cs:Array jP}{t:ko}{n:Nat},u.alloc (nH cs t)=v->u.heap.size=n->nP v n cs t:=λh hn=>by subst h;rw[<-hn];exact nP.new _ _ _
 have u4:=λ{b:Nat} {cs:Array jP} {t:ko} (A:nP av b cs t)=>wM A _ h
 have ak:=λ{b:Nat} {cs:Array jP} {t:ko} (A:nP aa b cs t)=>u4 (wM A _ O)
 have au:=λ{b:Nat} {cs:Array jP} {t:ko} (A:nP a9 b cs t)=>ak (wM A _ N)
 have u9:=λ{b:Nat} {cs:Array jP} {t:ko} (A:nP Y b cs t)=>au (wM A _ J)
 have u8:=λ{b:Nat} {cs:Array jP} {t:ko} (A:nP Q b cs t)=>u9 (wM A _ I)
 have u7:=λ{b:Nat} {cs:Array jP} {t:ko} (A:nP a6 b cs t)=>u8 (wM A _ E)
 have u6:=λ{b:Nat} {cs:Array jP} {t:ko} (A:nP a5 b cs t)=>u7 (wM A _ C)
 have u5:=λ{b:Nat} {cs:Array jP} {t:ko} (A:nP a4 b cs t)=>u6 (wM A _ e5)
 have v4:=λ{b:Nat} {cs:Array jP} {t:ko} (A:nP a3 b cs t)=>u5 (wM A _ e4)
 have v3:=λ{b:Nat} {cs:Array jP} {t:ko} (A:nP a2 b cs t)=>v4 (wM A _ e3)
 have v2:=λ{b:Nat} {cs:Array jP} {t:ko} (A:nP a1 b cs t)=>v3 (wM A _ e2)
 refine⟨⟨v2 (nb e1 hg),v3 (nb e2 ae),v4 (nb e3 af),u5 (nb e4 z3),u6 (nb e5 z4),u7 (nb C z5),u8 (nb E ag),u9 (nb I ah),au (nb J ai),ak (nb N z9),u4 (nb O aj),?_⟩,nb h ax⟩;subst h O N J I E C e5 e4 e3 e2 e1;have q:=λ(u:jJ) (ay:g<=u.heap.size) (b:jS g w u) (o:Obj)=>b.alloc ay o
 exact q _ nL (q _ nL (q _ nL (q _ nL (q _ nL (q _ nL (q _ nL (q _ nL (q _ nL (q _ nL (q _ nL (q _ nL (jT _ _) _) _) _) _) _) _) _) _) _) _) _) _
def xZ(w:jJ)(g:Nat)(a b c:jP):jJ:=((w.setCell (Z g 0 V) a).setCell (Z g 1 V) b).setCell (Z g 2 V) c
theorem qR(w:jJ)(g:Nat)(a b c:jP):((w.setCell (Z g 0 V) a).setCell (Z g 1 V) b).setCell (Z g 2 V) c=xZ w g a b c:=rfl
theorem qD{w:jJ}{g:Nat}{b c a0 b0 c0:jP}{t:ko}(h:nP w g #[a0,b0,c0] t):nP (xZ w g a b c) g #[a,b,c] t:=((h.set 0 _).set 1 _).set 2 _
theorem a3y{s:ByteArray}{m most E v:Int}{w w':jJ}(A:xg (zG s m most) 9 0=E)(he:E=v)(C:v≠0)(hn:0<=v)(hb:jS w.heap.size w w'):
  wL (uP s m most) w (nG (nE #[nD #[nk nJ 0,nz ⟨#[]⟩,nz ⟨#[]⟩],nk nI 0,nk nI v])) w':=by
 unfold wL uP;rw[A,he,if_neg C];refine⟨hb,?_⟩;dsimp only;rw[mV hn]
theorem a3z(a0 a1 a2 a3 a4 a5 a6 A C:jP)(W:jJ):l7 jI (kS VJ (nD #[a0,a1,a2,a3,a4,a5,a6,A,C]) (nk nI 0)) W=.ok a0 W:=rfl
theorem a3A(a0 a1 a2 a3 a4 a5 a6 A C:jP)(W:jJ):l7 jI (kS VJ (nD #[a0,a1,a2,a3,a4,a5,a6,A,C]) (nk nI 1)) W=.ok a1 W:=rfl
theorem a3B(a0 a1 a2 a3 a4 a5 a6 A C:jP)(W:jJ):l7 jI (kS VJ (nD #[a0,a1,a2,a3,a4,a5,a6,A,C]) (nk nI 2)) W=.ok a2 W:=rfl
theorem a3C(a0 a1 a2 a3 a4 a5 a6 A C:jP)(W:jJ):l7 jI (kS VJ (nD #[a0,a1,a2,a3,a4,a5,a6,A,C]) (nk nI 3)) W=.ok a3 W:=rfl
theorem a3D(a0 a1 a2 a3 a4 a5 a6 A C:jP)(W:jJ):l7 jI (kS VJ (nD #[a0,a1,a2,a3,a4,a5,a6,A,C]) (nk nI 4)) W=.ok a4 W:=rfl
theorem a3E(a0 a1 a2 a3 a4 a5 a6 A C:jP)(W:jJ):l7 jI (kS VJ (nD #[a0,a1,a2,a3,a4,a5,a6,A,C]) (nk nI 5)) W=.ok a5 W:=rfl
theorem a3F(a0 a1 a2 a3 a4 a5 a6 A C:jP)(W:jJ):l7 jI (kS VJ (nD #[a0,a1,a2,a3,a4,a5,a6,A,C]) (nk nI 6)) W=.ok a6 W:=rfl
theorem a3G(a0 a1 a2 a3 a4 a5 a6 A C:jP)(W:jJ):l7 jI (kS VJ (nD #[a0,a1,a2,a3,a4,a5,a6,A,C]) (nk nI 7)) W=.ok A W:=rfl
theorem a3H(a0 a1 a2 a3 a4 a5 a6 C A:jP)(W:jJ):l7 jI (kS VJ (nD #[a0,a1,a2,a3,a4,a5,a6,C,A]) (nk nI 8)) W=.ok A W:=rfl
theorem Ct{p:Prop}(h:p:=by
 obtain⟨r0,r1,r2,z0,z1,z2⟩:=HI3.br.b3;have HQ:=jH (qD (a:=nk nJ 0) (b:=nz ⟨#[]⟩) (c:=nz ⟨#[]⟩) HI3.br);have HBL:jX (jS w.heap.size w (xZ w3 (g+3) (nk nJ 0) (nz ⟨#[]⟩) (nz ⟨#[]⟩))):=jH (hg.symm▸(((HI3.pR.setCell (p:=(Z (g+3) 0 V)) (lZ _ _) _).setCell (p:=(Z (g+3) 1 V)) (lZ _ _) _).setCell (p:=(Z (g+3) 2 V)) (lZ _ _) _));go_wp2_with fail;rw[qR];obtain⟨d0,d1,d2⟩:=HQ.a3;refine jZ (v:=nE #[nD #[nk nJ 0,nz ⟨#[]⟩,nz ⟨#[]⟩],nk nI 0,nk nI v]) (by simp[kQ,Tryz.results101,go_sem,d0,d1,d2]) rfl ?_;rw[<-HP.out];exact a3y HE HEV (by simpa using hne) hnn HBL.out):p:=h
theorem Ub(m most:Int)(s:ByteArray)(w:jJ)(aV:(lI nK m).wf=true)(bg:most<=65536)(hs:s.size<=j3):
  jV jI 101 #[nk nK m,nk nI most,nz s] w (wL (uP s m most) w):=by
 have aD:∀(fn:Fn)(first cap:Array jP)(w:jJ),(mJ fn first cap).run jI w=.ok (.func fn first cap) w:=λ_ _ _ _=>rfl
 obtain⟨g,hg⟩:=nV w.heap.size;have av:=jH Ko;have bq:=a3z;have bu:=a3A;have bz:=a3B;have bA:=a3C;have bB:=a3D;have bC:=a3E;have bD:=a3F;have bE:=a3G;have bF:=a3H;have ai:=jH hs;have bG:s.size<=9223372036854775807:=by unfold j3 at hs;omega
 clear hs;obtain⟨aW,ay⟩:=nV (wL (uP s m most) w);have HP:=jH ay;rw[ay];clear ay;go_in;go_upto_region 5 with fail;simp only[kR,Nat.reduceAdd];go_wp2_with fail;refine(av _ _ _).mono ?_;rintro e w2 ⟨rfl,rfl⟩;go_wp2_with fail;refine(av _ _ _).mono ?_;rintro e w2 ⟨rfl,rfl⟩;go_wp2_with fail;refine(av _ _ _).mono ?_;rintro e w2 ⟨rfl,rfl⟩;go_wp2_with fail;refine(av _ _ _).mono ?_;rintro e w2 ⟨rfl,rfl⟩;go_upto_region 6 with fail;simp only[kR,Nat.reduceAdd,hg];refine uR (λW=>VI g w m most s ⟨#[]⟩ 0 W/\nP W (g+11) (Rv g) VJ) (a3x hg rfl) ?_;rintro bK ⟨hI0,ag⟩;have aF:=ag.cell 0;have aG:=ag.cell 1;have aH:=ag.cell 2;have aI:=ag.cell 3;have aJ:=ag.cell 4;have aK:=ag.cell 5;have aL:=ag.cell 6;have aM:=ag.cell 7;have aN:=ag.cell 8;simp only[Rv,Gc,jO,jN,jM]at aF aG aH aI aJ aK aL aM aN;have aO:=jH hI0;obtain⟨E,aP⟩:=nV (xg (zG s m most) 9 0);have HE:=jH aP;clear ag hI0 aP aD;go_wp2_with fail;go_loopw [34] (λkv aX=>∃(k:Nat) (nm:ByteArray) (ln:Int),kv=nk nI (k:Int)/\k<=9/\jX (VI g w m most s nm ln aX)/\jX (xg (zG s m most) (9 - k) k=E)/\jX (∀i,i<k->zG s m most i=0)/\jX (3<k->nm=xu s)/\jX (5<k->ln=(uU s:Nat))) (λkv _=>9 -(kT kv).toNat);case atStart=>exact⟨0,_,_,rfl,nL,aO,HE,jH (λi hi=>absurd hi nL),jH (λh=>absurd h nL),jH (λh=>absurd h nL)⟩
 case round=>
  obtain⟨k,nm,ln,rfl,hk,I,Y,aa,ah,ak⟩:=hrel;have af:=jH I.br;clear aF aG aH aI aJ aK aL aM aN;by_cases bH:k<9;case neg=>
   obtain rfl:k=9:=nL;obtain rfl:=ah.out nO;obtain rfl:=ak.out nO;have aQ:jX (E=0):=jH Y.symm;have aY:24+uU s<=s.size:=of_decide_eq_true (uE nO (aa 7 nO));have aR:(uU s:Int)<=most:=of_decide_eq_true (uE nO (aa 5 nO));have au:jX (wL (uP s m most) w=λe w'=>jS w.heap.size w w'/\e=nG (nE #[nD #[nk nJ 0,nz (xu s),nz (s.extract 24 (24+uU s))],nk nI ((24+uU s:Nat):Int),nk nI 0])):=jH (by
    unfold wL uP;rw[HE.out,aQ.out,if_pos rfl];rfl)
   obtain⟨N,aS⟩:=nV (uU s);obtain⟨az,ax⟩:=nV (xu s);rw[aS]at aY aR I au;rw[ax]at I au;have bL:=I.bs.c0;have x1:=I.bn.c0;have x2:=I.bl.c0;obtain⟨r0,r1,r2,z0,z1,z2⟩:=I.br.b3;have aZ:N<=65536:=nL;clear aS ax af aR;have HI3:=I;have HBL:jX (jS w.heap.size w (xZ wr (g+3) (nk nJ 0) (nz az) (nz (s.extract 24 (24+N))))):=jH (hg.symm▸(((HI3.pR.setCell (p:=(Z (g+3) 0 V)) (lZ _ _) _).setCell (p:=(Z (g+3) 1 V)) (lZ _ _) _).setCell (p:=(Z (g+3) 2 V)) (lZ _ _) _));have HQ:=jH (qD (a:=nk nJ 0) (b:=nz az) (c:=nz (s.extract 24 (24+N))) HI3.br);have bI:24+(N:Int)<=(s.size:Int):=nL;go_upto_region 13 with fail;go_big_region;go_wp2_with fail;obtain⟨d0,d1,d2⟩:=HQ.a3;rw[qR];refine jZ (v:=nE #[nD #[nk nJ 0,nz az,nz (s.extract 24 (24+N))],nk nI (24+(N:Int)),nk nI 0]) (by simp[kQ,Tryz.results101,go_sem,d0,d1,d2]) rfl ?_;rw[<-HP.out,au.out];exact⟨HBL.drew,nS⟩
  obtain rfl|rfl|rfl|rfl|rfl|rfl|rfl|rfl|rfl:k=0\/k=1\/k=2\/k=3\/k=4\/k=5\/k=6\/k=7\/k=8:=nL
  .
   obtain⟨v,A⟩:=nV (zG s m most 0);have aj:=jH A;have hnn:0<=v:=by rw[<-A];exact q8 _ _ _ _
   have C:jX (jV jI 133 #[nA (U (Z (g+2) 0 V)),nA (U (Z (g+7) 0 V))] wr λe w'=>e=nG (nk nI v)/\w'=wr):=jH (by rw[<-A];exact yJ s 4 4 (g+2) (g+7) wr (I.bs.cell 0) (I.r1.cell 0) rfl ai);by_cases J:v=0
   .subst J
    have O:jX (xg (zG s m most) (9 - 1) 1=E):=jH (by rw[<-Y.out];exact(vY A).symm);have Q:jX (∀i,i<1->zG s m most i=0):=jH λi hi=>by
     rcases kZ i 0 with h|h
     .exact aa i h
     .obtain rfl:i=0:=nL
      exact A
    clear A hnn af;go_wp2_with fail;refine C.mono ?_;rintro e w3 ⟨rfl,rfl⟩;go_wp2_with fail;go_roundw;case rel=>exact⟨1,nm,ln,rfl,nL,I,O,Q,jH (λh=>absurd h nL),jH (λh=>absurd h nL)⟩
    case measure=>simp[kT]
   .have hne:(v !=0)=true:=by simp[J]
    have HEV:jX (E=v):=jH (by rw[<-Y.out];exact(uD (by rw[A];exact J)).trans A);clear A J;go_wp2_with fail;refine C.mono ?_;rintro e w3 ⟨rfl,rfl⟩;have HI3:=I;exact Ct
  .
   have aT:4<=s.size:=of_decide_eq_true (uE nO (aa 0 nO));obtain⟨v,A⟩:=nV (zG s m most 1);have aj:=jH A;have hnn:0<=v:=by rw[<-A];exact q8 _ _ _ _
   have C:jX (jV jI 135 #[nA (U (Z (g+6) 0 V)),nA (U (Z g 0 V))] wr λe w'=>e=nG (nk nI v)/\jS wr.heap.size wr w'):=jH (by rw[<-A];exact Pm s m (g+2) g (g+6) wr (I.bs.cell 0) I.bs.lt (I.bm.cell 0) I.bm.lt aV (I.bf.cell 0) I.bf.lt aT ai);by_cases J:v=0
   .subst J
    have O:jX (xg (zG s m most) (9 - 2) 2=E):=jH (by rw[<-Y.out];exact(vY A).symm);have Q:jX (∀i,i<2->zG s m most i=0):=jH λi hi=>by
     rcases kZ i 1 with h|h
     .exact aa i h
     .obtain rfl:i=1:=nL
      exact A
    clear A hnn af;go_wp2_with fail;refine C.mono ?_;rintro e w3 ⟨rfl,ae⟩;have HI3:=jH (I.below ae);clear ae;go_wp2_with fail;go_roundw;case rel=>exact⟨2,nm,ln,rfl,nL,HI3,O,Q,jH (λh=>absurd h nL),jH (λh=>absurd h nL)⟩
    case measure=>simp[kT]
   .have hne:(v !=0)=true:=by simp[J]
    have HEV:jX (E=v):=jH (by rw[<-Y.out];exact(uD (by rw[A];exact J)).trans A);clear A J;go_wp2_with fail;refine C.mono ?_;rintro e w3 ⟨rfl,ae⟩;have HI3:=jH (I.below ae);clear ae;exact Ct
  .
   obtain⟨v,A⟩:=nV (zG s m most 2);have aj:=jH A;have hnn:0<=v:=by rw[<-A];exact q8 _ _ _ _
   have C:jX (jV jI 133 #[nA (U (Z (g+2) 0 V)),nA (U (Z (g+8) 0 V))] wr λe w'=>e=nG (nk nI v)/\w'=wr):=jH (by rw[<-A];exact yJ s 16 16 (g+2) (g+8) wr (I.bs.cell 0) (I.r2.cell 0) rfl ai);by_cases J:v=0
   .subst J
    have O:jX (xg (zG s m most) (9 - 3) 3=E):=jH (by rw[<-Y.out];exact(vY A).symm);have Q:jX (∀i,i<3->zG s m most i=0):=jH λi hi=>by
     rcases kZ i 2 with h|h
     .exact aa i h
     .obtain rfl:i=2:=nL
      exact A
    clear A hnn af;go_wp2_with fail;refine C.mono ?_;rintro e w3 ⟨rfl,rfl⟩;go_wp2_with fail;go_roundw;case rel=>exact⟨3,nm,ln,rfl,nL,I,O,Q,jH (λh=>absurd h nL),jH (λh=>absurd h nL)⟩
    case measure=>simp[kT]
   .have hne:(v !=0)=true:=by simp[J]
    have HEV:jX (E=v):=jH (by rw[<-Y.out];exact(uD (by rw[A];exact J)).trans A);clear A J;go_wp2_with fail;refine C.mono ?_;rintro e w3 ⟨rfl,rfl⟩;have HI3:=I;exact Ct
  .
   have aA:16<=s.size:=of_decide_eq_true (uE nO (aa 2 nO));obtain⟨v,A⟩:=nV (zG s m most 3);have aj:=jH A;have hnn:0<=v:=by rw[<-A];exact q8 _ _ _ _
   have C:jX (jV jI 136 #[nA (U (Z (g+2) 0 V)),nA (U (Z (g+4) 0 V))] wr λe w'=>e=nG (nk nI v)/\w'=wr.setCell (Z (g+4) 0 V) (nz (xu s))):=jH (by rw[<-A];exact T9 s nm (g+2) (g+4) wr (I.bs.cell 0) (I.bn.cell 0) (I.bn.free 0) aA ai);by_cases J:v=0
   .subst J
    have O:jX (xg (zG s m most) (9 - 4) 4=E):=jH (by rw[<-Y.out];exact(vY A).symm);have Q:jX (∀i,i<4->zG s m most i=0):=jH λi hi=>by
     rcases kZ i 3 with h|h
     .exact aa i h
     .obtain rfl:i=3:=nL
      exact A
    clear A hnn af;go_wp2_with fail;refine C.mono ?_;rintro e w3 ⟨rfl,rfl⟩;have HI3:=jH (I.a0I (xu s));generalize wr.setCell (Z (g+4) 0 V) (nz (xu s))=w3 at*;go_wp2_with fail;go_roundw;case rel=>exact⟨4,xu s,ln,rfl,nL,HI3,O,Q,jH (λh=>rfl),jH (λh=>absurd h nL)⟩
    case measure=>simp[kT]
   .have hne:(v !=0)=true:=by simp[J]
    have HEV:jX (E=v):=jH (by rw[<-Y.out];exact(uD (by rw[A];exact J)).trans A);clear A J;go_wp2_with fail;refine C.mono ?_;rintro e w3 ⟨rfl,rfl⟩;have HI3:=jH (I.a0I (xu s));generalize wr.setCell (Z (g+4) 0 V) (nz (xu s))=w3 at*;exact Ct
  .
   obtain⟨v,A⟩:=nV (zG s m most 4);have aj:=jH A;have hnn:0<=v:=by rw[<-A];exact q8 _ _ _ _
   have C:jX (jV jI 133 #[nA (U (Z (g+2) 0 V)),nA (U (Z (g+9) 0 V))] wr λe w'=>e=nG (nk nI v)/\w'=wr):=jH (by rw[<-A];exact yJ s 20 20 (g+2) (g+9) wr (I.bs.cell 0) (I.r3.cell 0) rfl ai);by_cases J:v=0
   .subst J
    have O:jX (xg (zG s m most) (9 - 5) 5=E):=jH (by rw[<-Y.out];exact(vY A).symm);have Q:jX (∀i,i<5->zG s m most i=0):=jH λi hi=>by
     rcases kZ i 4 with h|h
     .exact aa i h
     .obtain rfl:i=4:=nL
      exact A
    clear A hnn af;go_wp2_with fail;refine C.mono ?_;rintro e w3 ⟨rfl,rfl⟩;go_wp2_with fail;go_roundw;case rel=>exact⟨5,nm,ln,rfl,nL,I,O,Q,jH (λh=>ah.out nL),jH (λh=>absurd h nL)⟩
    case measure=>simp[kT]
   .have hne:(v !=0)=true:=by simp[J]
    have HEV:jX (E=v):=jH (by rw[<-Y.out];exact(uD (by rw[A];exact J)).trans A);clear A J;go_wp2_with fail;refine C.mono ?_;rintro e w3 ⟨rfl,rfl⟩;have HI3:=I;exact Ct
  .
   have aB:20<=s.size:=of_decide_eq_true (uE nO (aa 4 nO));obtain⟨v,A⟩:=nV (zG s m most 5);have aj:=jH A;have hnn:0<=v:=by rw[<-A];exact q8 _ _ _ _
   have C:jX (jV jI 138 #[nA (U (Z (g+6) 0 V)),nA (U (Z (g+5) 0 V)),nA (U (Z (g+1) 0 V))] wr λe w'=>e=nG (nk nI v)/\w'=wr.setCell (Z (g+5) 0 V) (nk nI (uU s:Nat))):=jH (by rw[<-A];exact Wu s most ln (g+2) (g+6) (g+5) (g+1) wr (I.bs.cell 0) (I.bf.cell 0) I.bl I.bo nL aB ai);by_cases J:v=0
   .subst J
    have O:jX (xg (zG s m most) (9 - 6) 6=E):=jH (by rw[<-Y.out];exact(vY A).symm);have Q:jX (∀i,i<6->zG s m most i=0):=jH λi hi=>by
     rcases kZ i 5 with h|h
     .exact aa i h
     .obtain rfl:i=5:=nL
      exact A
    clear A hnn af;go_wp2_with fail;refine C.mono ?_;rintro e w3 ⟨rfl,rfl⟩;have HI3:=jH (I.Bv (uU s:Nat));generalize wr.setCell (Z (g+5) 0 V) (nk nI (uU s:Nat))=w3 at*;go_wp2_with fail;go_roundw;case rel=>exact⟨6,nm,(uU s:Nat),rfl,nL,HI3,O,Q,jH (λh=>ah.out nL),jH (λh=>rfl)⟩
    case measure=>simp[kT]
   .have hne:(v !=0)=true:=by simp[J]
    have HEV:jX (E=v):=jH (by rw[<-Y.out];exact(uD (by rw[A];exact J)).trans A);clear A J;go_wp2_with fail;refine C.mono ?_;rintro e w3 ⟨rfl,rfl⟩;have HI3:=jH (I.Bv (uU s:Nat));generalize wr.setCell (Z (g+5) 0 V) (nk nI (uU s:Nat))=w3 at*;exact Ct
  .
   obtain⟨v,A⟩:=nV (zG s m most 6);have aj:=jH A;have hnn:0<=v:=by rw[<-A];exact q8 _ _ _ _
   have C:jX (jV jI 133 #[nA (U (Z (g+2) 0 V)),nA (U (Z (g+10) 0 V))] wr λe w'=>e=nG (nk nI v)/\w'=wr):=jH (by rw[<-A];exact yJ s 24 24 (g+2) (g+10) wr (I.bs.cell 0) (I.r4.cell 0) rfl ai);by_cases J:v=0
   .subst J
    have O:jX (xg (zG s m most) (9 - 7) 7=E):=jH (by rw[<-Y.out];exact(vY A).symm);have Q:jX (∀i,i<7->zG s m most i=0):=jH λi hi=>by
     rcases kZ i 6 with h|h
     .exact aa i h
     .obtain rfl:i=6:=nL
      exact A
    clear A hnn af;go_wp2_with fail;refine C.mono ?_;rintro e w3 ⟨rfl,rfl⟩;go_wp2_with fail;go_roundw;case rel=>exact⟨7,nm,ln,rfl,nL,I,O,Q,jH (λh=>ah.out nL),jH (λh=>ak.out nL)⟩
    case measure=>simp[kT]
   .have hne:(v !=0)=true:=by simp[J]
    have HEV:jX (E=v):=jH (by rw[<-Y.out];exact(uD (by rw[A];exact J)).trans A);clear A J;go_wp2_with fail;refine C.mono ?_;rintro e w3 ⟨rfl,rfl⟩;have HI3:=I;exact Ct
  .
   obtain rfl:=ak.out nO;have aC:24<=s.size:=of_decide_eq_true (uE nO (aa 6 nO));obtain⟨v,A⟩:=nV (zG s m most 7);have aj:=jH A;have hnn:0<=v:=by rw[<-A];exact q8 _ _ _ _
   have C:jX (jV jI 139 #[nA (U (Z (g+2) 0 V)),nA (U (Z (g+5) 0 V))] wr λe w'=>e=nG (nk nI v)/\w'=wr):=jH (by rw[<-A];exact Ua s (uU s) (g+2) (g+5) wr (I.bs.cell 0) (I.bl.cell 0) aC ai);by_cases J:v=0
   .subst J
    have O:jX (xg (zG s m most) (9 - 8) 8=E):=jH (by rw[<-Y.out];exact(vY A).symm);have Q:jX (∀i,i<8->zG s m most i=0):=jH λi hi=>by
     rcases kZ i 7 with h|h
     .exact aa i h
     .obtain rfl:i=7:=nL
      exact A
    clear A hnn af;go_wp2_with fail;refine C.mono ?_;rintro e w3 ⟨rfl,rfl⟩;go_wp2_with fail;go_roundw;case rel=>exact⟨8,nm,_,rfl,nL,I,O,Q,jH (λh=>ah.out nL),jH (λh=>rfl)⟩
    case measure=>simp[kT]
   .have hne:(v !=0)=true:=by simp[J]
    have HEV:jX (E=v):=jH (by rw[<-Y.out];exact(uD (by rw[A];exact J)).trans A);clear A J;go_wp2_with fail;refine C.mono ?_;rintro e w3 ⟨rfl,rfl⟩;have HI3:=I;exact Ct
  .
   obtain rfl:=ak.out nO;have aU:24+uU s<=s.size:=of_decide_eq_true (uE nO (aa 7 nO));have bJ:(uU s:Int)<=most:=of_decide_eq_true (uE nO (aa 5 nO));obtain⟨v,A⟩:=nV (zG s m most 8);have aj:=jH A;have hnn:0<=v:=by rw[<-A];exact q8 _ _ _ _
   have C:jX (jV jI 140 #[nA (U (Z (g+2) 0 V)),nA (U (Z (g+5) 0 V))] wr λe w'=>e=nG (nk nI v)/\jS wr.heap.size wr w'):=jH (by rw[<-A];exact Wv s (uU s) (g+2) (g+5) wr (I.bs.cell 0) I.bs.lt (I.bl.cell 0) I.bl.lt aU nL ai);by_cases J:v=0
   .subst J
    have O:jX (xg (zG s m most) (9 - 9) 9=E):=jH (by rw[<-Y.out];exact(vY A).symm);have Q:jX (∀i,i<9->zG s m most i=0):=jH λi hi=>by
     rcases kZ i 8 with h|h
     .exact aa i h
     .obtain rfl:i=8:=nL
      exact A
    clear A hnn af;go_wp2_with fail;refine C.mono ?_;rintro e w3 ⟨rfl,ae⟩;have HI3:=jH (I.below ae);clear ae;go_wp2_with fail;go_roundw;case rel=>exact⟨9,nm,_,rfl,nL,HI3,O,Q,jH (λh=>ah.out nL),jH (λh=>rfl)⟩
    case measure=>simp[kT]
   .have hne:(v !=0)=true:=by simp[J]
    have HEV:jX (E=v):=jH (by rw[<-Y.out];exact(uD (by rw[A];exact J)).trans A);clear A J;go_wp2_with fail;refine C.mono ?_;rintro e w3 ⟨rfl,ae⟩;have HI3:=jH (I.below ae);clear ae;exact Ct
end
section
open Go.RowKit Go.Maps
structure DV(P:ma)(k:ko)(κ:Type) where
 kv:κ->jP
 kl:κ->Lit
 ok:κ->Prop
 K:Keyed P k
 lay:∀x,ok x->keyOf P k (kv x)=U (kl x)
 inv:∀v l,keyOf P k v=U l->∃x,v=kv x/\l=kl x
 inj:∀x y,kl x=kl y->x=y
 key:∀x,WideAt.IsKeyLit (kl x)
structure Gd(X:Type) where
 ev:X->jP
 R:jP->Option (DataW X×List MemPlace)
 lay:∀x,R (ev x)=U (.held x,[])
 inv:∀v z,R v=U z->∃x,v=ev x/\z=(.held x,[])
section
variable {P:ma}{k e t:ko}{κ X:Type}
def qC(E:DV P k κ)(F:Gd X)(w:jJ)(b n:Nat)(l:List (κ×X)):Prop:=
 ∃A,w.ownsMap P k F.R b n (.map A)/\A.Perm (l.map λp=>(E.kl p.1,.held p.2))/\(l.map Prod.fst).Nodup/\∀p∈l,E.ok p.1
variable {E:DV P k κ}{F:Gd X}{w:jJ}{b n:Nat}{l:List (κ×X)}
theorem qC.made(E:DV P k κ)(F:Gd X)(w:jJ):qC E F (w.alloc (.map #[] 0)) w.heap.size 0 []:=
 ⟨[],World.ownsMap_made w P k F.R,.refl _,List.nodup_nil,λp hp=>by cases hp⟩
theorem qC.lt(h:qC E F w b n l):b<w.heap.size:=let ⟨_,h,_⟩:=h;h.lt
theorem qC.block{w':jJ}(h:qC E F w b n l)(hb:w'.heap[b]? =w.heap[b]?):qC E F w' b n l:=by
 obtain⟨D,⟨C,A,hh,r⟩,h2⟩:=h;exact⟨D,⟨C,A,by rw[hb];exact hh,r⟩,h2⟩
theorem qC.below{w':jJ}(h:qC E F w b n l)(hb:jS w.heap.size w w'):qC E F w' b n l:=h.block (hb.block b h.lt)
theorem qC.up(h:qC E F w b n l){m:Nat}(A:n<=m):qC E F w b m l:=let ⟨D,hD,r⟩:=h;⟨D,hD.mono A,r⟩
theorem a3I{A:List (Lit×DataW X)}(C:A.Perm (l.map λp=>(E.kl p.1,.held p.2))){x:κ}{d:DataW X}(h:(E.kl x,d)∈A):∃y,d=.held y/\(x,y)∈l:=by
 obtain⟨p,hp,he⟩:=List.mem_map.1 (C.mem_iff.1 h);simp only[Prod.mk.injEq]at he;obtain⟨a,y⟩:=p;obtain rfl:a=x:=E.inj _ _ he.1;exact⟨y,he.2.symm,hp⟩
theorem Kq{l:List (κ×X)}(h:(l.map Prod.fst).Nodup)(f:κ×X->Bool):((l.filter f).map Prod.fst).Nodup:=h.sublist (List.filter_sublist.map _)
end
section
variable {P:ma}{k e t:ko}{κ X:Type}[DecidableEq κ]{E:DV P k κ}{F:Gd X}{w:jJ}{b n:Nat}{l:List (κ×X)}
def uF(l:List (κ×X))(x:κ):Option X:=(l.find? λp=>p.1==x).map Prod.snd
theorem I9{l:List (κ×X)}(hn:(l.map Prod.fst).Nodup){x:κ}{y:X}:uF l x=U y<->(x,y)∈l:=by
 unfold uF;constructor
 .intro h
  obtain⟨p,hp,rfl⟩:=Option.map_eq_some_iff.1 h;have h1:=List.find?_some hp;have h2:=List.mem_of_find?_eq_some hp;obtain⟨a,b⟩:=p;have:a=x:=by simpa using h1
  subst this;exact h2
 .intro h
  induction l with
  |nil=>cases h
  |cons p l C=>
   rw[mQ,List.nodup_cons]at hn;rw[List.find?_cons];rcases mM.1 h with rfl|h
   .simp
   .have A:(p.1==x)=false:=by
     rw[beq_eq_false_iff_ne];rintro rfl;exact hn.1 (List.mem_map.2 ⟨(p.1,y),h,rfl⟩)
    rw[A];exact C hn.2 h
theorem Uc{l:List (κ×X)}{x:κ}:uF l x=V<->x∉l.map Prod.fst:=by
 unfold uF;rw[Option.map_eq_none_iff,List.find?_eq_none,List.mem_map];constructor;.rintro h ⟨p,hp,rfl⟩;exact h p hp nS
 .intro h p hp he;exact h ⟨p,hp,by simpa using he⟩
theorem qC.at_{A:List (Lit×DataW X)}(C:A.Perm (l.map λp=>(E.kl p.1,.held p.2)))(hn:(l.map Prod.fst).Nodup)(x:κ)(z:X):
  (DataW.map A).atKey (E.kl x) (.held z)=.held ((uF l x).getD z)/\Maps.has (.map A) (E.kl x)=(uF l x).isSome:=by
 cases hg:uF l x with
 |none=>
  have I:∀p∈A,p.1.sameKey (E.kl x)=false:=by
   intro p hp;obtain⟨q,O,rfl⟩:=List.mem_map.1 (C.mem_iff.1 hp);apply sameKey_ne;intro he;exact Uc.1 hg (List.mem_map.2 ⟨q,O,E.inj _ _ he⟩)
  constructor
  .show(match A.find? (λp=>p.1.sameKey (E.kl x))with|some p=>p.2|none=> .held z)=_
   rw[List.find?_eq_none.2 (λp hp=>by rw[I p hp];decide)];rfl
  .rw[Maps.has_eq]
   rw[Option.isSome_none,List.any_eq_false];intro p hp;rw[I p hp];decide
 |some y=>
  have hin:(E.kl x,DataW.held y)∈A:=C.mem_iff.2 (List.mem_map.2 ⟨(x,y),(I9 hn).1 hg,rfl⟩);constructor
  .show(match A.find? (λp=>p.1.sameKey (E.kl x))with|some p=>p.2|none=> .held z)=_
   cases J:A.find? (λp=>p.1.sameKey (E.kl x))with
   |none=>
    have:=List.find?_eq_none.1 J _ hin;exact absurd (WideAt.sameKey_self (E.key x)) this
   |some p=>
    obtain⟨Q,Y⟩:=p;have h1:=List.find?_some J;have h2:=List.mem_of_find?_eq_some J;obtain rfl:Q=E.kl x:=WideAt.sameKey_eq h1;obtain⟨aa,rfl,N⟩:=a3I C h2;have:=(I9 hn).2 N;rw[hg]at this;cases this;rfl
  .rw[Maps.has_eq,Option.isSome_some,List.any_eq_true]
   exact⟨_,hin,WideAt.sameKey_self (E.key x)⟩
theorem qC.look(h:qC E F w b n l)(ht:P.underlying t=U (.map k e)){z:X}(N:∀w,(zeroValue e).run P w=.ok (F.ev z) w){x:κ}(O:E.ok x):
  (lW t (.map (U b)) (E.kv x) false).run P w=.ok (F.ev ((uF l x).getD z)) w:=by
 obtain⟨Y,Q,C,hn,_⟩:=h;obtain⟨v,ps,A,I⟩:=Q.lookup E.K ht (N w) (F.lay z) (E.lay x O);rw[(qC.at_ C hn x z).1]at I;obtain⟨y,rfl,J⟩:=F.inv _ _ I;simp only[Prod.mk.injEq,DataW.held.injEq]at J;rw[A,J.1]
theorem qC.look_ok(h:qC E F w b n l)(ht:P.underlying t=U (.map k e)){z:X}(N:∀w,(zeroValue e).run P w=.ok (F.ev z) w){x:κ}(O:E.ok x):
  (lW t (.map (U b)) (E.kv x) true).run P w=.ok (nE #[F.ev ((uF l x).getD z),nC (uF l x).isSome]) w:=by
 obtain⟨Y,Q,C,hn,_⟩:=h;obtain⟨v,ps,A,I⟩:=Q.look_ok E.K ht (N w) (F.lay z) (E.lay x O);rw[(qC.at_ C hn x z).1]at I;rw[(qC.at_ C hn x z).2]at A;obtain⟨y,rfl,J⟩:=F.inv _ _ I;simp only[Prod.mk.injEq,DataW.held.injEq]at J;rw[A,J.1]
theorem Po(x:κ)(l:List (κ×X)):(l.map λp=>(E.kl p.1,DataW.held p.2)).filter (λp=> !p.1.sameKey (E.kl x))=(l.filter λp=>p.1 !=x).map λp=>(E.kl p.1,DataW.held p.2):=by
 rw[List.filter_map];congr 1;apply List.filter_congr;intro p _;show(!(E.kl p.1).sameKey (E.kl x))=(p.1 !=x);by_cases h:p.1=x;.subst h;rw[WideAt.sameKey_self (E.key _)];simp
 .rw[sameKey_ne (λhe=>h (E.inj _ _ he))];simp[bne,h]
theorem qC.store(h:qC E F w b n l)(ht:P.underlying t=U (.map k e)){x:κ}(C:E.ok x)(y:X)(hn:n<j3):
  ∃w',(Instr.mapUpdate t (.map (U b)) (E.kv x) (F.ev y)).run P w=.ok () w'/\qC E F w' b (n+1) ((x,y)::l.filter λp=>p.1 !=x)/\pE b w w':=by
 obtain⟨Q,O,I,J,hok⟩:=h;obtain⟨w',A,N,hg⟩:=O.update E.K ht hn (E.lay x C) (F.lay y);refine⟨w',A,⟨_,N,?_,?_,?_⟩,hg⟩
 .refine(Go.WideShapes.insert_perm _ _).trans ?_
  rw[mQ];refine List.Perm.cons _ ?_;rw[<-Po];exact I.filter _
 .rw[mQ,List.nodup_cons]
  refine⟨?_,Kq J _⟩;rw[List.mem_map];rintro⟨p,hp,he⟩;have:=(List.mem_filter.1 hp).2;rw[he]at this;simp at this
 .intro p hp
  rcases mM.1 hp with rfl|hp
  .exact C
  .exact hok p (List.mem_filter.1 hp).1
theorem xw{rest:List lY}{o:lY}{a:Act}{Q:Exit->Act->jJ->Prop}(hg:o.guard=V)(mo xo C:Operand)(hop:o.op=.mapUpdate t mo xo C)(ht:P.underlying t=U (.map k e))(h:qC E F w b n l)(J:a.eval mo=.map (U b)){x:κ}(N:a.eval xo=E.kv x)(hok:E.ok x){y:X}(O:a.eval C=F.ev y)(hn:n<j3)(Y:∀w',qC E F w' b (n+1) ((x,y)::l.filter λp=>p.1 !=x)->pE b w w'->wpList P ops Q rest (a.put o.dst kI) w'):wpList P ops Q (o::rest) a w:=by
 refine wpList_plain hg λaa I=> ?_
 obtain⟨w',A,r1,r2⟩:=h.store ht hok y hn;unfold Oper.wp;simp[execOp,hop,J,N,O,A,Result.andThen];exact I _ _ (Y w' r1 r2)
end
section
variable {P:ma}{k:ko}{q:IntKind}
def intKeys(hk:P.underlying k=U (.int q)):DV P k Int where
 kv:=nk q
 kl:=.int q
 ok x:=(lI q x).wf=true
 K:=int_keyed hk
 lay x hx:=keyOf_int_mk hk hx
 inv v l h:=by obtain⟨x,h1,h2,_⟩:=Maps.keyOf_int_inv hk h;exact⟨x,h1,h2⟩
 inj x y h:=(Lit.int.inj h).2
 key x:=trivial
def Ww(q:IntKind):Gd Int where
 ev:=nk q
 R v:=match v with| nk A x=>if A=q then U (.held x,[])else V|_=>V
 lay x:=nS
 inv v z h:=by
  cases v<;>simp at h;obtain⟨rfl,rfl⟩:=h;exact⟨_,rfl,rfl⟩
end
section
variable {P:ma}{k e t:ko}{κ X:Type}[DecidableEq κ]{E:DV P k κ}{F:Gd X}{w:jJ}{b n:Nat}{l:List (κ×X)}
theorem qp{rest:List lY}{o:lY}{a:Act}{Q:Exit->Act->jJ->Prop}(hg:o.guard=V)(mo xo C:Operand)(hop:o.op=.insert t mo xo C)(ht:P.underlying t=U (.map k e))(h:qC E F w b n l)(J:a.eval mo=.map (U b)){x:κ}(N:a.eval xo=E.kv x)(hok:E.ok x){y:X}(O:a.eval C=F.ev y)(hn:n<j3)(Y:∀w',qC E F w' b (n+1) ((x,y)::l.filter λp=>p.1 !=x)->pE b w w'->wpList P ops Q rest (a.put o.dst kI) w'):wpList P ops Q (o::rest) a w:=by
 refine wpList_plain hg λaa I=> ?_
 obtain⟨w',A,r1,r2⟩:=h.store ht hok y hn;unfold Oper.wp;simp[execOp,hop,J,N,O,A,Result.andThen];exact I _ _ (Y w' r1 r2)
end
end
section
open Go.RowKit
def ErK:DV jI 36 Int:=intKeys Tryz.underlying36
def ErE:Gd Int:=Ww nI
def Cu(er:Int):Int:=if er=2 then 3 else er
theorem MJ(er:Int):(uF [((2:Int),(3:Int))] er).isSome=(er==2)/\(er=2->(uF [((2:Int),(3:Int))] er).getD 0=3):=by
 unfold uF;by_cases h:er=2;.subst h;exact⟨rfl,λ_=>rfl⟩
 .have h2:((2:Int)==er)=false:=nT
  simp[List.find?,h2,h]
theorem a0K(w:jJ):(zeroValue 36).run jI w=.ok (ErE.ev 0) w:=rfl
theorem DW{p:Prop}(h:p:=by
 go_wp2_with fail;go_returns;exact⟨by rw[HE.out];rfl,HB.out⟩):p:=h
theorem IA(er:Int)(w:jJ)(ah:(lI nI er).wf=true):
  jV jI 149 #[nk nI er] w λe w'=>e=nG (nk nI (Cu er))/\jS w.heap.size w w':=by
 have ai:=@run_makeMap jI;obtain⟨g,hg⟩:=nV w.heap.size;have Y:=qC.made ErK ErE w;have C:=(jT w.heap.size w).alloc (jK _) (.map #[] 0);rw[hg]at Y C;have Y:=jH Y;have ae:=jH C;rw[hg];obtain⟨R,aa⟩:=nV (Cu er);have af:=jH aa;rw[aa];clear C aa;go_in;go_upto_region 1 with fail;go_upto_region 2 with(go_loud (refine qp (E:=ErK) (F:=ErE) (x:=(2:Int)) (y:=(3:Int)) rfl _ _ _ rfl Tryz.underlying229 Y rfl rfl (show(lI .i64 2).wf=true by decide) rfl yZ ?_);intro w2 I J)
 have HB:jX (jS g w w2):=jH (J.below ae (jK _) (by simp[hg]));have A:=qC.look_ok (x:=er) I Tryz.underlying229 a0K ah;have N:=(MJ er).1;have O:=(MJ er).2;have Q:((2:Int),(3:Int))::List.filter (λp=>p.1 !=(2:Int)) ([]:List (Int×Int))=[((2:Int),(3:Int))]:=rfl;rw[Q,N]at A;have A:(lW 229 (.map (U g)) (.int .i64 er) true).run jI w2=.ok (.tuple #[.int .i64 ((uF [((2:Int),(3:Int))] er).getD 0),.bool (er==2)]) w2:=A;generalize (uF [((2:Int),(3:Int))] er).getD 0=G at*;by_cases h2:er=2
 .have ag:G=3:=O h2
  have hb:(er==2)=true:=by simp[h2]
  rw[hb,ag]at A;have HE:jX (R=3):=jH (by rw[<-af.out];exact if_pos h2);clear I J Q O N h2 hb ag;exact DW
 .have hb:(er==2)=false:=by simp[h2]
  rw[hb]at A;have HE:jX (R=er):=jH (by rw[<-af.out];exact if_neg h2);clear I J Q O N h2 hb;exact DW
theorem Ja:∀(l:List UInt8)(i n:Nat),(oD l i n).2.2<=3
 |[],_,_=>by simp[oD]
 |b::r,i,n=>by
  unfold oD;split;.exact jK _
  .split
   .exact kH _
   .exact Ja r _ _
def Jb(r:RS):Prop:=0<=r.f/\r.f<=5
theorem Jb.take(h:Jb r)(n:Int):Jb (r.take n).1:=by
 refine⟨RS.vw r n h.1,?_⟩;unfold RS.take;split
 .split
  .show(1:Int)<=5;decide
  .split
   .show(2:Int)<=5;decide
   .show(0:Int)<=5;decide
 .exact h.2
theorem Jb.fail(h:Jb r){x:Int}(h0:0<=x)(A:x<=5):Jb (r.fail x):=by
 refine⟨RS.yF r h0 h.1,?_⟩;unfold RS.fail;split;.exact A
 .exact h.2
theorem Jb.byte(h:Jb r):Jb r.byte.1:=by
 refine⟨RS.Rl r h.1,?_⟩;unfold RS.byte;split
 .split
  .show(0:Int)<=5;decide
  .show(2:Int)<=5;decide
 .exact h.2
theorem Jb.elem(h:Jb r)(l:List UInt8)(size:Nat):Jb (sj r l size).1:=by
 have h1:∀k v,Jb (uB k v r.byte.1).1:=λk v=>by
  have hb:=h.byte;unfold uB;split
  .split
   .exact hb.take _
   .exact hb
  .split
   .exact hb.take _
   .split
    .exact hb.take _
    .exact hb.take _
 unfold sj xm;split;.exact h1 _ _
 .split
  .exact(h1 _ _).fail nO nO
  .split
   .exact(h1 _ _).take _
   .exact h1 _ _
theorem Jb.run(size:Nat):∀(f:Nat)(r:RS)(l:List UInt8),Jb r->Jb (zg size f r l).1
 |0,r,l,h=>h
 |f+1,r,l,h=>by
  unfold zg;split;.exact Jb.run size f _ _ (h.elem l size)
  .exact h
theorem Wx(s:ByteArray)(n:Nat):∀er,Eu s n=.error er->1<=er/\er<=1000:=by
 intro er h;unfold Eu at h;have h0:Jb (zg n (s.size+1) (RS.of s) []).1:=Jb.run n _ _ _ ⟨Int.le_refl _,show(0:Int)<=5 by decide⟩;have h1:Jb (if(zg n (s.size+1) (RS.of s) []).2.length<n then(zg n (s.size+1) (RS.of s) []).1.fail 2 else(zg n (s.size+1) (RS.of s) []).1):=by
  split;.exact h0.fail nO nO
  .exact h0
 dsimp only at h;generalize (if(zg n (s.size+1) (RS.of s) []).2.length<n then(zg n (s.size+1) (RS.of s) []).1.fail 2 else(zg n (s.size+1) (RS.of s) []).1)=r at*;obtain⟨a,b⟩:=h1;split at h
 .rename_i A
  cases h;omega
 .cases h
theorem Wy(n:Int)(mt:Option (Nat×MS)):Bb n mt<=5:=by
 cases mt with
 |none=>show(0:Int)<=5;decide
 |some x=>
  unfold Bb MS.take;dsimp only;split;.show(1:Int)<=5;decide
  .split
   .show(5:Int)<=5;decide
   .show(0:Int)<=5;decide
theorem Wz(l:List UInt8):(uA l).2.2<=5:=by
 have:=Ja l 0 0;unfold uA;split
 .split
  .exact jK _
  .omega
 .show(oD l 0 0).2.2<=5;omega
theorem Gf(s:ByteArray)(most:Int)(mt:Option (Nat×MS)):∀er,(qQ s most mt).1=.error er->1<=er/\er<=1000:=by
 intro er h;have A:=Wz s.data.toList;unfold qQ at h;generalize uA s.data.toList=t at*;obtain⟨n,k,e⟩:=t;dsimp only at h A;split at h;.cases h;omega
 .split at h
  .cases h;omega
  .have h1:=Co n mt
   have h2:=Wy n mt;split at h;.cases h;omega
   .exact Wx _ _ _ h
theorem Pp(most:Int)(s:ByteArray):(pq most s).body.size<=s.size:=by
 unfold pq;split
 .split
  .exact kH _
  .dsimp only
   split;.simp only[kC];omega
   .exact kH _
 .exact kH _
def sW(most A:Int)(s:ByteArray)(mt:Option (Nat×MS)):Except Nat (vP×Nat)×Option (Nat×MS):=
 if(pq most s).e≠0 then(.error (pq most s).e,mt)else
 match qQ (pq most s).body A mt with
 |(.error er,m2)=>(.error (Cu (er:Nat)).toNat,m2)
 |(.ok l,m2)=>(.ok (⟨(pq most s).id,⟨#[]⟩,⟨l.toArray⟩⟩,(pq most s).n),m2)
def zH(R:Except Nat (vP×Nat)×Option (Nat×MS))(mt:Option (Nat×MS))(w:jJ)(e:Ending)(w':jJ):Prop:=
 w.grownBy w' (oM mt)/\pO w' R.2/\match R.1 with
 | .error er=>e=nG (nE #[nD #[nk nJ 0,nz ⟨#[]⟩,nz ⟨#[]⟩],nk nI 0,nk nI (er:Nat)])
 | .ok y=>e=nG (nE #[nD #[nk nJ y.1.id,nz y.1.name,nz y.1.body],nk nI (y.2:Nat),nk nI 0])
theorem zI{mt:Option (Nat×MS)}{w:jJ}(h:pO w mt):∀x,oM mt=U x->x<w.heap.size:=λx A=>by
 cases mt with
 |none=>cases A
 |some y=>cases A;exact nP.lt h.1
theorem Cv(s:ByteArray)(most:Int)(mt:Option (Nat×MS)):oM (qQ s most mt).2=oM mt:=by
 unfold qQ;split;split;.rfl
 .split
  .rfl
  .split
   .exact FT _ _
   .exact FT _ _
structure WA(g g2:Nat)(w:jJ)(mt Ih:Option (Nat×MS))(id:Nat)(b:ByteArray)(W:jJ):Prop where
 res:nP W g #[nk nJ 0,nz ⟨#[]⟩,nz ⟨#[]⟩] rq
 fr:nP W g2 #[nk nJ id,nz ⟨#[]⟩,nz b] rq
 mm:pO W Ih
 gr:w.grownBy W (oM mt)
 lt:g<g2
section
variable {g g2:Nat}{w W W':jJ}{mt Ih:Option (Nat×MS)}{id:Nat}{b:ByteArray}
theorem WA.below(h:WA g g2 w mt Ih id b W)(hb:jS W.heap.size W W'):WA g g2 w mt Ih id b W':=
 ⟨Below.blk hb h.res h.res.lt,Below.blk hb h.fr h.fr.lt,h.mm.grown hb,pY h.gr (o6 hb),h.lt⟩
theorem pg{row:Option Nat}{c:Nat}{cs:Array jP}{t:ko}(h:nP W c cs t)(hg:W.grownBy W' row)(A:∀x,row=U x->x≠c):nP W' c cs t:=by
 unfold nP;rw[hg.block c h.lt (λe=>A c e.symm rfl)];exact h
theorem WA.grow{m2:Option (Nat×MS)}(h:WA g g2 w mt Ih id b W)(hg:W.grownBy W' (oM mt))(C:pO W' m2)(hlt:∀x,oM mt=U x->x<g):WA g g2 w mt m2 id b W':=
 ⟨pg h.res hg (λx A e=>by have:=hlt x A;omega),pg h.fr hg (λx A e=>by have:=hlt x A;have:=h.lt;omega),C,pY h.gr hg,h.lt⟩
theorem rV{row:Option Nat}{A:jJ}(h:w.grownBy A row){p:lH}(hp:w.heap.size<=p.block)(v:jP):w.grownBy (A.setCell p v) row:=
 ⟨h.os,h.tape,h.output,by simpa [kz]using h.size,λi hi C=>(j6 A p v i nL).trans (h.block i hi C)⟩
theorem xN{A:jJ}{m:Option (Nat×MS)}(h:pO A m){p:lH}(hp:∀x,oM m=U x->x≠p.block)(v:jP):pO (A.setCell p v) m:=by
 cases m with
 |none=>trivial
 |some y=>exact⟨nP.setOther h.1 (hp _ rfl) v,h.2⟩
theorem Pq{b' c:jP}(h:WA g g2 w mt Ih id b W)(hlt:∀x,oM Ih=U x->x<g)(hg:w.heap.size=g):w.grownBy (xZ W g a b' c) (oM mt)/\pO (xZ W g a b' c) Ih:=
 have q:∀i,∀x,oM Ih=U x->x≠((Z g i V):lH).block:=λi x A e=>by have:=hlt x A;simp at e;omega
 have p:∀i,w.heap.size<=((Z g i V):lH).block:=λi=>mR hg
 ⟨rV (p:=(Z g 2 V)) (rV (p:=(Z g 1 V)) (rV (p:=(Z g 0 V)) h.gr (p 0) _) (p 1) _) (p 2) _,xN (xN (xN h.mm (q 0) _) (q 1) _) (q 2) _⟩
theorem WA.setBody(h:WA g g2 w mt Ih id b W)(hlt:∀x,oM Ih=U x->x<g)(hg:w.heap.size=g)(A:ByteArray):WA g g2 w mt Ih id A (W.setCell (Z g2 2 V) (nz A)):=
 ⟨h.res.setOther (a:=(Z g2 2 V)) (by have:=h.lt;simp;omega) _,h.fr.set 2 _,xN h.mm (λx C e=>by have:=hlt x C;have:=h.lt;simp at e;omega) _,rV h.gr (by have:=h.lt;simp;omega) _,h.lt⟩
end
theorem MK(most J:Int)(s:ByteArray)(mt:Option (Nat×MS))(w:jJ)(hs:s.size<=j3)(aS:-9223372036854775808<=most/\most<=9223372036854775807)(aM:J<=65536)(aj:pO w mt):
  jV jI 111 #[nk nI most,nk nI J,IZ mt,nz s] w (zH (sW most J s mt) mt w):=by
 obtain⟨g,hg⟩:=nV w.heap.size;have ak:=(jT w.heap.size w).alloc (jK _) (nH #[nk nJ 0,nz ⟨#[]⟩,nz ⟨#[]⟩] rq);have aF:=jH (nP.new w #[nk nJ 0,nz ⟨#[]⟩,nz ⟨#[]⟩] rq);have aG:=jH ak;have au:(w.alloc (nH #[nk nJ 0,nz ⟨#[]⟩,nz ⟨#[]⟩] rq)).heap.size=g+1:=by simp[hg]
 have av:=jH (FV most s (w.alloc (nH #[nk nJ 0,nz ⟨#[]⟩,nz ⟨#[]⟩] rq)) aS hs);have aH:=jH (pO.grown aj ak);have C:=jH (hg▸zI aj);obtain⟨R,af⟩:=nV (sW most J s mt);rw[af];unfold sW at af;have ax:(pq most s).body.size<=j3:=jY (Pp most s) hs;obtain⟨id,bd,n,er,aI⟩:∃id bd n er,pq most s=⟨id,bd,n,er⟩:=⟨_,_,_,_,rfl⟩;rw[aI]at av af ax;dsimp only at af ax;have N:=jH af;have av:jX (jV jI 106 #[nk nI most,nz s] (w.alloc (nH #[nk nJ 0,nz ⟨#[]⟩,nz ⟨#[]⟩] rq)) λe w'=>e=nG (nE #[nD #[nk nJ id,nz ⟨#[]⟩,nz bd],nk nI (n:Nat),nk nI (er:Nat)])/\jS (w.alloc (nH #[nk nJ 0,nz ⟨#[]⟩,nz ⟨#[]⟩] rq)).heap.size (w.alloc (nH #[nk nJ 0,nz ⟨#[]⟩,nz ⟨#[]⟩] rq)) w'):=av;have aJ:jX (∀w2 W,jS (g+1) (w.alloc (nH #[nk nJ 0,nz ⟨#[]⟩,nz ⟨#[]⟩] rq)) w2->w2.alloc (nH #[nk nJ id,nz ⟨#[]⟩,nz bd] rq)=W->WA g w2.heap.size w mt mt id bd W):=jH λw2 W h2 aT=>by
  subst aT;have aU:=h2.alloc (by rw[<-au];exact h2.size) (nH #[nk nJ id,nz ⟨#[]⟩,nz bd] rq);have ay:jS (w.alloc (nH #[nk nJ 0,nz ⟨#[]⟩,nz ⟨#[]⟩] rq)).heap.size (w.alloc (nH #[nk nJ 0,nz ⟨#[]⟩,nz ⟨#[]⟩] rq)) (w2.alloc (nH #[nk nJ id,nz ⟨#[]⟩,nz bd] rq)):=by rw[au];exact aU
  exact⟨Below.blk ay (hg▸aF.out) nL,nP.new _ _ _,aH.grown ay,pY (o6 aG) (o6 ay),by have:=h2.size;omega⟩
 clear ak aj af aI aF aG aH;go_in;go_upto_region 1 with fail;generalize w.alloc _=w1 at*;go_wp2_with fail;refine av.mono ?_;rintro e w2 ⟨rfl,az⟩;rw[au]at az;go_upto_region 2 with fail;have aa:=jH (aJ w2 _ az rfl);generalize w2.alloc _=w3 at*;generalize w2.heap.size=g2 at*;clear aJ az av;by_cases he:er=0;case neg=>
  have aY:((er:Int) !=0)=true:=by simp[he]
  have ag:jX (R=(.error er,mt)):=jH (by rw[<-N.out,if_pos he]);clear he N;obtain⟨r0,r1,r2,z0,aN,aO⟩:=aa.res.b3;have aA:=jH (qD (a:=nk nJ 0) (b:=nz ⟨#[]⟩) (c:=nz ⟨#[]⟩) aa.res);have A:=jH (Pq (a:=nk nJ 0) (b':=nz ⟨#[]⟩) (c:=nz ⟨#[]⟩) aa C hg);go_wp2_with fail;rw[qR];obtain⟨aB,aC,d2⟩:=aA.a3;refine jZ (v:=nE #[nD #[nk nJ 0,nz ⟨#[]⟩,nz ⟨#[]⟩],nk nI 0,nk nI er]) (by simp[kQ,Tryz.results111,go_sem,aB,aC,d2]) rfl ?_;rw[ag.out];exact⟨A.1,A.2,rfl⟩
 subst he
 have N:jX (R=match qQ bd J mt with
  |(.error er,m2)=>(.error (Cu (er:Nat)).toNat,m2)
  |(.ok l,m2)=>(.ok (⟨id,⟨#[]⟩,⟨l.toArray⟩⟩,n),m2)):=jH (by rw[<-N.out];rfl)
 have ah:=jH (Mh bd J mt w3 ax aM aa.mm);have hrow:=Cv bd J mt;have O:=Gf bd J mt;obtain⟨aL,m2,aP⟩:∃aL m2,qQ bd J mt=(aL,m2):=⟨_,_,rfl⟩;rw[aP]at ah N hrow O;have ae:jX (∀x,oM m2=U x->x<g):=jH λx aV=>C.out x (hrow▸aV)
 dsimp only at hrow O;have x2:=aa.fr.c2;unfold V8 at ah;dsimp only at ah;clear aP hrow;cases aL with
 |error ai=>
  have bg:=O ai rfl;have aW:=jH (λW=>IA (ai:Nat) W (by simp[Lit.wf,IntKind.min,IntKind.max,IntKind.signed,IntKind.bits];omega));have aZ:((ai:Int) !=0)=true:=nT;have aQ:0<=Cu (ai:Nat):=by unfold Cu;split<;>omega
  have ag:jX (R=(.error (Cu (ai:Nat)).toNat,m2)):=N;clear N;generalize Cu (ai:Nat)=aX at*;clear O;go_wp2_with fail;refine ah.mono ?_;rintro e w4 ⟨Q,Y,rfl⟩;have I:=jH (aa.grow Q Y C);clear Q Y;clear C;have C:=ae;go_wp2_with fail;refine(aW _).mono ?_;rintro e w5 ⟨rfl,aK⟩;have E:=jH (I.below aK);clear aK;obtain⟨r0,r1,r2,z0,aN,aO⟩:=E.res.b3;have aA:=jH (qD (a:=nk nJ 0) (b:=nz ⟨#[]⟩) (c:=nz ⟨#[]⟩) E.res);have A:=jH (Pq (a:=nk nJ 0) (b':=nz ⟨#[]⟩) (c:=nz ⟨#[]⟩) E C hg);go_wp2_with fail;rw[qR];obtain⟨aB,aC,d2⟩:=aA.a3;refine jZ (v:=nE #[nD #[nk nJ 0,nz ⟨#[]⟩,nz ⟨#[]⟩],nk nI 0,nk nI aX]) (by simp[kQ,Tryz.results111,go_sem,aB,aC,d2]) rfl ?_;rw[ag.out];exact⟨A.1,A.2,by dsimp only;rw[mV aQ]⟩
 |ok l=>
  have ag:jX (R=(.ok (⟨id,⟨#[]⟩,⟨l.toArray⟩⟩,n),m2)):=N;obtain⟨bl,aD⟩:∃bl:ByteArray,(⟨l.toArray⟩:ByteArray)=bl:=⟨_,rfl⟩;rw[aD]at ag;simp only[aD]at ah;clear O aD;go_wp2_with fail;refine ah.mono ?_;rintro e w4 ⟨Q,Y,rfl⟩;have I:=jH (aa.grow Q Y C);clear Q Y x2;have aR:=I.fr.c0;have x1:=I.fr.c1;have x2:=I.fr.c2;have f2:=I.fr.free 2;have E:=jH (I.setBody ae hg bl);clear C;have C:=ae;go_upto_region 8 with fail;generalize w4.setCell (Z g2 2 V) (nz bl)=w5 at*;clear aR x1 x2 f2;obtain⟨aR,x1,x2⟩:=E.fr.a3;obtain⟨r0,r1,r2,z0,aN,aO⟩:=E.res.b3;have aA:=jH (qD (a:=nk nJ id) (b:=nz ⟨#[]⟩) (c:=nz bl) E.res);have A:=jH (Pq (a:=nk nJ id) (b':=nz ⟨#[]⟩) (c:=nz bl) E C hg);go_wp2_with fail;rw[qR];obtain⟨aB,aC,d2⟩:=aA.a3;refine jZ (v:=nE #[nD #[nk nJ id,nz ⟨#[]⟩,nz bl],nk nI n,nk nI 0]) (by simp[kQ,Tryz.results111,go_sem,aB,aC,d2]) rfl ?_;rw[ag.out];exact⟨A.1,A.2,rfl⟩
structure oF where
 fmt:Int
 mag:Int
 pF:Int
 qc:Int
 dep:Int
 oV:Int
def oF.cs(c:oF):Array jP:=#[nk nI c.fmt,nk nK c.mag,nk nI c.pF,nk nI c.qc,nk nI c.dep,nk nI c.oV]
def oF.v(c:oF):jP:=nD c.cs
def oF.wf(c:oF):Prop:=(lI nI c.fmt).wf=true/\(lI nK c.mag).wf=true/\(lI nI c.pF).wf=true/\(lI nI c.qc).wf=true/\(lI nI c.dep).wf=true/\(lI nI c.oV).wf=true
def within(n most:Int):Bool:=decide (1<=n)&&decide (n<=most)
def oJ(c:oF):Bool:=within c.fmt 3&&within c.pF 65536&&within c.qc 65536&&within c.dep 16&&within c.oV 1024
theorem qU{c:oF}(h:oJ c=true):(1<=c.fmt/\c.fmt<=3)/\(1<=c.pF/\c.pF<=65536)/\(1<=c.qc/\c.qc<=65536)/\(1<=c.dep/\c.dep<=16)/\(1<=c.oV/\c.oV<=1024):=by
 simp only[oJ,within,j4,decide_eq_true_eq]at h;omega
abbrev tC:ko:=24
theorem vz{w:jJ}(c:oF){t:ko}:∀W,w.alloc (nH #[nk nI c.fmt,nk nK c.mag,nk nI c.pF,nk nI c.qc,nk nI c.dep,nk nI c.oV] t)=W->
  jS w.heap.size w W/\W.cell? (Z w.heap.size 0 V)=U (nk nI c.fmt)/\W.cell? (Z w.heap.size 1 V)=U (nk nK c.mag)/\W.cell? (Z w.heap.size 2 V)=U (nk nI c.pF)/\
   W.cell? (Z w.heap.size 3 V)=U (nk nI c.qc)/\W.cell? (Z w.heap.size 4 V)=U (nk nI c.dep)/\W.cell? (Z w.heap.size 5 V)=U (nk nI c.oV):=by
 rintro W rfl;have hb:=nP.new w #[nk nI c.fmt,nk nK c.mag,nk nI c.pF,nk nI c.qc,nk nI c.dep,nk nI c.oV] t;exact⟨(jT _ w).alloc (jK _) _,hb.cell 0,hb.cell 1,hb.cell 2,hb.cell 3,hb.cell 4,hb.cell 5⟩
theorem MM(n m:Int)(w:jJ):jV jI 95 #[nk nI n,nk nI m] w λe w'=>e=nG (nC (within n m))/\w'=w:=by
 by_cases h1:1<=n
 .by_cases h2:n<=m
  .have HR:jX (within n m=true):=jH (by unfold within;rw[decide_eq_true h1,decide_eq_true h2];rfl)
   exact FW
  .have HR:jX (within n m=false):=jH (by unfold within;rw[decide_eq_true h1,decide_eq_false h2];rfl)
   exact FW
 .have HR:jX (within n m=false):=jH (by unfold within;rw[decide_eq_false h1];rfl)
  exact FW
theorem BM(c:oF)(w:jJ):jV jI 67 #[c.v] w λe w'=>e=nG (nC (oJ c))/\jS w.heap.size w w':=by
 have O:=jH (vz (w:=w) c (t:=tC));have C:=jH MM;obtain⟨g,hg⟩:=nV w.heap.size;have I:jX (oJ c=(within c.fmt 3&&within c.pF 65536&&within c.qc 65536&&within c.dep 16&&within c.oV 1024)):=jH rfl;rw[hg]at O⊢;obtain⟨f,m,fr,aa,ae,af⟩:=c;unfold oF.v oF.cs;dsimp only at O I⊢;go_in;go_upto_region 1 with fail;generalize w.alloc _=w1 at*;obtain⟨Q,c0,c1,c2,c3,c4,c5⟩:=O.out _ rfl;have J:=jH Q;clear O Q c1;go_wp2_with fail;refine(C _ _ _).mono ?_;rintro e w2 ⟨rfl,rfl⟩;cases A:within f 3 with
 |false=>
  go_wp2_with fail;go_returns;exact⟨by rw[I.out];simp[A],J.out⟩
 |true=>
  go_wp2_with fail;refine(C _ _ _).mono ?_;rintro e w2 ⟨rfl,rfl⟩;cases E:within fr 65536 with
  |false=>
   go_wp2_with fail;go_returns;exact⟨by rw[I.out];simp[A,E],J.out⟩
  |true=>
   go_wp2_with fail;refine(C _ _ _).mono ?_;rintro e w2 ⟨rfl,rfl⟩;cases N:within aa 65536 with
   |false=>
    go_wp2_with fail;go_returns;exact⟨by rw[I.out];simp[A,E,N],J.out⟩
   |true=>
    go_wp2_with fail;refine(C _ _ _).mono ?_;rintro e w2 ⟨rfl,rfl⟩;cases Y:within ae 16 with
    |false=>
     go_wp2_with fail;go_returns;exact⟨by rw[I.out];simp[A,E,N,Y],J.out⟩
    |true=>
     go_wp2_with fail;refine(C _ _ _).mono ?_;rintro e w2 ⟨rfl,rfl⟩;go_wp2_with fail;go_returns;exact⟨by rw[I.out];simp[A,E,N,Y],J.out⟩
def zi:Array jP:=#[.nilFunc,.nilFunc,.nilFunc,.nilFunc,.func (.func 97) #[] #[],.func (.func 98) #[] #[],.func (.func 100) #[] #[],.func (.func 102) #[] #[],.func (.func 96) #[] #[],.func (.func 103) #[] #[],.func (.func 105) #[] #[],.func (.func 107) #[] #[],.func (.func 96) #[] #[],.func (.func 108) #[] #[],.func (.func 110) #[] #[],.func (.func 107) #[] #[]]
theorem Cw(w:jJ):jV jI 68 #[] w λe w'=>e=nG (nD zi)/\jS w.heap.size w w':=by
 have A:=jH (nP.new w zi 142);have I:=jH ((jT w.heap.size w).alloc (jK _) (nH zi 142));unfold zi at*;go_in;go_wp2_with fail;obtain⟨J,N,d2,O,d4,d5,d6,Q,d8,d9⟩:=A.a10;have d10:=A.cell 10;have d11:=A.cell 11;have C:=A.cell 12;have d13:=A.cell 13;have d14:=A.cell 14;have E:=A.cell 15;simp only[jO,jN,jM]at d10 d11 C d13 d14 E;refine jZ (v:=nD #[.nilFunc,.nilFunc,.nilFunc,.nilFunc,.func (.func 97) #[] #[],.func (.func 98) #[] #[],.func (.func 100) #[] #[],.func (.func 102) #[] #[],.func (.func 96) #[] #[],.func (.func 103) #[] #[],.func (.func 105) #[] #[],.func (.func 107) #[] #[],.func (.func 96) #[] #[],.func (.func 108) #[] #[],.func (.func 110) #[] #[],.func (.func 107) #[] #[]]) (by simp[kQ,Tryz.results68,go_sem,J,N,d2,O,d4,d5,d6,Q,d8,d9,d10,d11,C,d13,d14,E]) rfl ⟨rfl,I.out⟩
def wN(f:PF):Except Nat (vP×Nat):=if f.e≠0 then .error f.e else .ok (⟨f.id,⟨#[]⟩,f.body⟩,f.n)
theorem Pt{most:Int}{s:ByteArray}(h:(pq most s).e≠0):pq most s=PF.bad (pq most s).e:=by
 unfold pq at*;split
 .rename_i h0
  rw[if_pos h0]at h;split;.rfl
  .rename_i h1
   rw[if_neg h1]at h;dsimp only at*;split
   .rename_i h2
    rw[if_pos h2]at h;exact absurd rfl h
   .rfl
 .rfl
structure FmI(g:Nat)(w:jJ)(mt Ih:Option (Nat×MS))(W:jJ):Prop where
 res:nP W (g+1) #[nk nJ 0,nz ⟨#[]⟩,nz ⟨#[]⟩] rq
 mm:pO W Ih
 gr:w.grownBy W (oM mt)
theorem BN{g:Nat}{w W:jJ}{mt Ih:Option (Nat×MS)}{b c:jP}(h:FmI g w mt Ih W)(hlt:∀x,oM Ih=U x->x<g)(hg:w.heap.size=g):w.grownBy (xZ W (g+1) a b c) (oM mt)/\pO (xZ W (g+1) a b c) Ih:=
 have q:∀i,∀x,oM Ih=U x->x≠((Z (g+1) i V):lH).block:=λi x A e=>by have:=hlt x A;simp at e;omega
 have p:∀i,w.heap.size<=((Z (g+1) i V):lH).block:=λi=>by rw[hg];exact kV _
 ⟨rV (p:=(Z (g+1) 2 V)) (rV (p:=(Z (g+1) 1 V)) (rV (p:=(Z (g+1) 0 V)) h.gr (p 0) _) (p 1) _) (p 2) _,xN (xN (xN h.mm (q 0) _) (q 1) _) (q 2) _⟩
theorem Bf{R:Except Nat (vP×Nat)}{mt:Option (Nat×MS)}{w w':jJ}(A:pO w mt)(h:wL R w e w'):zH (R,mt) mt w e w':=
 ⟨o6 h.1,A.grown h.1,h.2⟩
theorem ED(most A:Int)(s:ByteArray)(mt:Option (Nat×MS)):oM (sW most A s mt).2=oM mt:=by
 have:=Cv (pq most s).body A mt;unfold sW;split;.rfl
 .split
  .rename_i h;rw[h]at this;exact this
  .rename_i h;rw[h]at this;exact this
theorem WB(c:oF)(s:ByteArray)(mt:Option (Nat×MS))(w:jJ)(hs:s.size<=j3)(hc:oJ c=true)(av:c.wf)(af:pO w mt):
  jV jI 100 #[c.v,IZ mt,nz s] w (zH (uP s c.mag c.pF,mt) mt w):=by
 obtain⟨⟨aI,aJ⟩,⟨aK,ax⟩,⟨aL,aM⟩,_,_⟩:=qU hc;have aB:∃R,(uP s c.mag c.pF,mt)=R:=⟨_,rfl⟩;have hrow:oM (uP s c.mag c.pF,mt).2=oM mt:=rfl;have A:jX (∀x,oM ((uP s c.mag c.pF,mt)).2=U x->x<w.heap.size):=jH λx ag=>zI af x (hrow▸ag)
 have Q:jX (oM ((uP s c.mag c.pF,mt)).2=oM mt):=jH hrow;have C:∀W,pO W mt->jV jI 101 #[nk nK c.mag,nk nI c.pF,nz s] W (zH (uP s c.mag c.pF,mt) mt W):=λ(W:jJ) (aQ:pO W mt)=>(Ub c.mag c.pF s W av.2.1 ax hs).mono λe w' h=>Bf aQ h
 obtain⟨R,aN⟩:=aB;rw[aN]at C A Q⊢;have C:=jH C;obtain⟨f,m,fr,O,aa,ae⟩:=c;unfold oF.v oF.cs;dsimp only at*;have aC:=jH (vz (w:=w) ⟨f,m,fr,O,aa,ae⟩ (t:=tC));obtain⟨g,hg⟩:=nV w.heap.size;have ay:=jH af;dsimp only at aC;rw[hg]at aC A;clear aN hc af av hs aI aJ aK ax aL aM hrow
 have az:jX (∀aD W,w.alloc (nH #[nk nI f,nk nK m,nk nI fr,nk nI O,nk nI aa,nk nI ae] tC)=aD->aD.alloc (nH #[nk nJ 0,nz ⟨#[]⟩,nz ⟨#[]⟩] rq)=W->FmI g w mt mt W/\
   W.cell? (Z g 1 V)=U (nk nK m)/\W.cell? (Z g 2 V)=U (nk nI fr)/\W.cell? (Z g 3 V)=U (nk nI O)):=jH λaD W h1 h2=>by
  subst h1 h2;have aO:=nP.new w #[nk nI f,nk nK m,nk nI fr,nk nI O,nk nI aa,nk nI ae] tC;have aP:=(jT w.heap.size w).alloc (jK _) (nH #[nk nI f,nk nK m,nk nI fr,nk nI O,nk nI aa,nk nI ae] tC);have ah:=aP.alloc nS (nH #[nk nJ 0,nz ⟨#[]⟩,nz ⟨#[]⟩] rq);have aR:(w.alloc (nH #[nk nI f,nk nK m,nk nI fr,nk nI O,nk nI aa,nk nI ae] tC)).heap.size=g+1:=by simp[hg]
  have aA:=nP.new (w.alloc (nH #[nk nI f,nk nK m,nk nI fr,nk nI O,nk nI aa,nk nI ae] tC)) #[nk nJ 0,nz ⟨#[]⟩,nz ⟨#[]⟩] rq;rw[aR]at aA;have Y:=aO.alloc (nH #[nk nJ 0,nz ⟨#[]⟩,nz ⟨#[]⟩] rq);rw[hg]at Y;exact⟨⟨aA,ay.grown ah,o6 ah⟩,Y.cell 1,Y.cell 2,Y.cell 3⟩
 go_in;go_upto_region 1 with fail;obtain⟨hI,x1,x2,x3⟩:=az.out _ _ rfl rfl;generalize (w.alloc _).alloc _=w2 at*;have ai:=jH hI;clear hI az aC ay;go_wp2_with fail;refine(C _ ai.mm).mono ?_;obtain⟨aS,m2⟩:=R;dsimp only at A Q;cases aS with
 |error er=>
  rintro e w3 ⟨E,I,rfl⟩;dsimp only at I;have J:jX (FmI g w mt m2 w3):=jH ⟨pg ai.res E (λx ag e=>by have:=A.out x (Q.out▸ag);omega),I,pY ai.gr E⟩;clear E I x1 x2 x3;obtain⟨r0,r1,r2,z0,aT,aU⟩:=J.res.b3;have aF:=jH (qD (a:=nk nJ 0) (b:=nz ⟨#[]⟩) (c:=nz ⟨#[]⟩) J.res);have N:=jH (BN (a:=nk nJ 0) (b:=nz ⟨#[]⟩) (c:=nz ⟨#[]⟩) J A hg);go_wp2_with fail;rw[qR];obtain⟨aG,aH,d2⟩:=aF.a3;refine jZ (v:=nE #[nD #[nk nJ 0,nz ⟨#[]⟩,nz ⟨#[]⟩],nk nI 0,nk nI (er:Nat)]) (by simp[kQ,Tryz.results100,go_sem,aG,aH,d2]) rfl ⟨N.1,N.2,rfl⟩
 |ok y=>
  obtain⟨⟨aj,ak,au⟩,fn⟩:=y;rintro e w3 ⟨E,I,rfl⟩;dsimp only at I⊢;have J:jX (FmI g w mt m2 w3):=jH ⟨pg ai.res E (λx ag e=>by have:=A.out x (Q.out▸ag);omega),I,pY ai.gr E⟩;clear E I x1 x2 x3;obtain⟨r0,r1,r2,z0,aT,aU⟩:=J.res.b3;have aF:=jH (qD (a:=nk nJ aj) (b:=nz ak) (c:=nz au) J.res);have N:=jH (BN (a:=nk nJ aj) (b:=nz ak) (c:=nz au) J A hg);go_wp2_with fail;rw[qR];obtain⟨aG,aH,d2⟩:=aF.a3;refine jZ (v:=nE #[nD #[nk nJ aj,nz ak,nz au],nk nI (fn:Nat),nk nI 0]) (by simp[kQ,Tryz.results100,go_sem,aG,aH,d2]) rfl ⟨N.1,N.2,rfl⟩
theorem WC{most:Int}{s:ByteArray}(h:e=nG (pq most s).v):match wN (pq most s)with
 | .error er=>e=nG (nE #[nD #[nk nJ 0,nz ⟨#[]⟩,nz ⟨#[]⟩],nk nI 0,nk nI (er:Nat)])
 | .ok y=>e=nG (nE #[nD #[nk nJ y.1.id,nz y.1.name,nz y.1.body],nk nI (y.2:Nat),nk nI 0]):=by
 by_cases h0:(pq most s).e=0
 .have:wN (pq most s)=.ok (⟨(pq most s).id,⟨#[]⟩,(pq most s).body⟩,(pq most s).n):=if_neg (by simpa using h0)
  rw[this];dsimp only;rw[h];unfold PF.v DF;rw[h0];rfl
 .have h1:wN (pq most s)=.error (pq most s).e:=if_pos h0
  rw[h1];dsimp only;rw[h];have h2:=Pt h0;generalize pq most s=q at*;obtain⟨i,b,n,A⟩:=q;unfold PF.bad at h2;cases h2;rfl
theorem Ud(c:oF)(s:ByteArray)(mt:Option (Nat×MS))(w:jJ)(hs:s.size<=j3)(hc:oJ c=true)(aG:c.wf)(af:pO w mt):
  jV jI 105 #[c.v,IZ mt,nz s] w (zH (wN (pq c.pF s),mt) mt w):=by
 obtain⟨⟨aH,aI⟩,⟨aJ,aK⟩,⟨aL,aM⟩,_,_⟩:=qU hc;have az:∃R,(wN (pq c.pF s),mt)=R:=⟨_,rfl⟩;have hrow:oM (wN (pq c.pF s),mt).2=oM mt:=rfl;have A:jX (∀x,oM ((wN (pq c.pF s),mt)).2=U x->x<w.heap.size):=jH λx ag=>zI af x (hrow▸ag)
 have Q:jX (oM ((wN (pq c.pF s),mt)).2=oM mt):=jH hrow;have C:∀W,pO W mt->jV jI 106 #[nk nI c.pF,nz s] W (zH (wN (pq c.pF s),mt) mt W):=λ(W:jJ) (aQ:pO W mt)=>(FV c.pF s W nL hs).mono λe w' h=>Bf (R:=wN (pq c.pF s)) aQ ⟨h.2,WC h.1⟩
 obtain⟨R,aN⟩:=az;rw[aN]at C A Q⊢;have C:=jH C;obtain⟨f,m,fr,O,aa,ae⟩:=c;unfold oF.v oF.cs;dsimp only at*;have aA:=jH (vz (w:=w) ⟨f,m,fr,O,aa,ae⟩ (t:=tC));obtain⟨g,hg⟩:=nV w.heap.size;have av:=jH af;dsimp only at aA;rw[hg]at aA A;clear aN hc af aG hs aH aI aJ aK aL aM hrow
 have ax:jX (∀aB W,w.alloc (nH #[nk nI f,nk nK m,nk nI fr,nk nI O,nk nI aa,nk nI ae] tC)=aB->aB.alloc (nH #[nk nJ 0,nz ⟨#[]⟩,nz ⟨#[]⟩] rq)=W->FmI g w mt mt W/\
   W.cell? (Z g 1 V)=U (nk nK m)/\W.cell? (Z g 2 V)=U (nk nI fr)/\W.cell? (Z g 3 V)=U (nk nI O)):=jH λaB W h1 h2=>by
  subst h1 h2;have aO:=nP.new w #[nk nI f,nk nK m,nk nI fr,nk nI O,nk nI aa,nk nI ae] tC;have aP:=(jT w.heap.size w).alloc (jK _) (nH #[nk nI f,nk nK m,nk nI fr,nk nI O,nk nI aa,nk nI ae] tC);have ah:=aP.alloc nS (nH #[nk nJ 0,nz ⟨#[]⟩,nz ⟨#[]⟩] rq);have aR:(w.alloc (nH #[nk nI f,nk nK m,nk nI fr,nk nI O,nk nI aa,nk nI ae] tC)).heap.size=g+1:=by simp[hg]
  have ay:=nP.new (w.alloc (nH #[nk nI f,nk nK m,nk nI fr,nk nI O,nk nI aa,nk nI ae] tC)) #[nk nJ 0,nz ⟨#[]⟩,nz ⟨#[]⟩] rq;rw[aR]at ay;have Y:=aO.alloc (nH #[nk nJ 0,nz ⟨#[]⟩,nz ⟨#[]⟩] rq);rw[hg]at Y;exact⟨⟨ay,av.grown ah,o6 ah⟩,Y.cell 1,Y.cell 2,Y.cell 3⟩
 go_in;go_upto_region 1 with fail;obtain⟨hI,x1,x2,x3⟩:=ax.out _ _ rfl rfl;generalize (w.alloc _).alloc _=w2 at*;have ai:=jH hI;clear hI ax aA av;go_wp2_with fail;refine(C _ ai.mm).mono ?_;obtain⟨aS,m2⟩:=R;dsimp only at A Q;cases aS with
 |error er=>
  rintro e w3 ⟨E,I,rfl⟩;dsimp only at I;have J:jX (FmI g w mt m2 w3):=jH ⟨pg ai.res E (λx ag e=>by have:=A.out x (Q.out▸ag);omega),I,pY ai.gr E⟩;clear E I x1 x2 x3;obtain⟨r0,r1,r2,z0,aT,aU⟩:=J.res.b3;have aC:=jH (qD (a:=nk nJ 0) (b:=nz ⟨#[]⟩) (c:=nz ⟨#[]⟩) J.res);have N:=jH (BN (a:=nk nJ 0) (b:=nz ⟨#[]⟩) (c:=nz ⟨#[]⟩) J A hg);go_wp2_with fail;rw[qR];obtain⟨aD,aF,d2⟩:=aC.a3;refine jZ (v:=nE #[nD #[nk nJ 0,nz ⟨#[]⟩,nz ⟨#[]⟩],nk nI 0,nk nI (er:Nat)]) (by simp[kQ,Tryz.results105,go_sem,aD,aF,d2]) rfl ⟨N.1,N.2,rfl⟩
 |ok y=>
  obtain⟨⟨aj,ak,au⟩,fn⟩:=y;rintro e w3 ⟨E,I,rfl⟩;dsimp only at I⊢;have J:jX (FmI g w mt m2 w3):=jH ⟨pg ai.res E (λx ag e=>by have:=A.out x (Q.out▸ag);omega),I,pY ai.gr E⟩;clear E I x1 x2 x3;obtain⟨r0,r1,r2,z0,aT,aU⟩:=J.res.b3;have aC:=jH (qD (a:=nk nJ aj) (b:=nz ak) (c:=nz au) J.res);have N:=jH (BN (a:=nk nJ aj) (b:=nz ak) (c:=nz au) J A hg);go_wp2_with fail;rw[qR];obtain⟨aD,aF,d2⟩:=aC.a3;refine jZ (v:=nE #[nD #[nk nJ aj,nz ak,nz au],nk nI (fn:Nat),nk nI 0]) (by simp[kQ,Tryz.results105,go_sem,aD,aF,d2]) rfl ⟨N.1,N.2,rfl⟩
theorem Pv(c:oF)(s:ByteArray)(mt:Option (Nat×MS))(w:jJ)(hs:s.size<=j3)(hc:oJ c=true)(aH:c.wf)(af:pO w mt):
  jV jI 110 #[c.v,IZ mt,nz s] w (zH (sW c.pF c.qc s mt) mt w):=by
 obtain⟨⟨aI,aJ⟩,⟨aK,aL⟩,⟨aM,av⟩,_,_⟩:=qU hc;have aA:∃R,(sW c.pF c.qc s mt)=R:=⟨_,rfl⟩;have hrow:oM (sW c.pF c.qc s mt).2=oM mt:=ED _ _ _ _;have A:jX (∀x,oM ((sW c.pF c.qc s mt)).2=U x->x<w.heap.size):=jH λx ag=>zI af x (hrow▸ag)
 have Q:jX (oM ((sW c.pF c.qc s mt)).2=oM mt):=jH hrow;have C:∀W,pO W mt->jV jI 111 #[nk nI c.pF,nk nI c.qc,IZ mt,nz s] W (zH (sW c.pF c.qc s mt) mt W):=λ(W:jJ) (aQ:pO W mt)=>MK c.pF c.qc s mt W hs nL av aQ
 obtain⟨R,aN⟩:=aA;rw[aN]at C A Q⊢;have C:=jH C;obtain⟨f,m,fr,O,aa,ae⟩:=c;unfold oF.v oF.cs;dsimp only at*;have aB:=jH (vz (w:=w) ⟨f,m,fr,O,aa,ae⟩ (t:=tC));obtain⟨g,hg⟩:=nV w.heap.size;have ax:=jH af;dsimp only at aB;rw[hg]at aB A;clear aN hc af aH hs aI aJ aK aL aM av hrow
 have ay:jX (∀aC W,w.alloc (nH #[nk nI f,nk nK m,nk nI fr,nk nI O,nk nI aa,nk nI ae] tC)=aC->aC.alloc (nH #[nk nJ 0,nz ⟨#[]⟩,nz ⟨#[]⟩] rq)=W->FmI g w mt mt W/\
   W.cell? (Z g 1 V)=U (nk nK m)/\W.cell? (Z g 2 V)=U (nk nI fr)/\W.cell? (Z g 3 V)=U (nk nI O)):=jH λaC W h1 h2=>by
  subst h1 h2;have aO:=nP.new w #[nk nI f,nk nK m,nk nI fr,nk nI O,nk nI aa,nk nI ae] tC;have aP:=(jT w.heap.size w).alloc (jK _) (nH #[nk nI f,nk nK m,nk nI fr,nk nI O,nk nI aa,nk nI ae] tC);have ah:=aP.alloc nS (nH #[nk nJ 0,nz ⟨#[]⟩,nz ⟨#[]⟩] rq);have aR:(w.alloc (nH #[nk nI f,nk nK m,nk nI fr,nk nI O,nk nI aa,nk nI ae] tC)).heap.size=g+1:=by simp[hg]
  have az:=nP.new (w.alloc (nH #[nk nI f,nk nK m,nk nI fr,nk nI O,nk nI aa,nk nI ae] tC)) #[nk nJ 0,nz ⟨#[]⟩,nz ⟨#[]⟩] rq;rw[aR]at az;have Y:=aO.alloc (nH #[nk nJ 0,nz ⟨#[]⟩,nz ⟨#[]⟩] rq);rw[hg]at Y;exact⟨⟨az,ax.grown ah,o6 ah⟩,Y.cell 1,Y.cell 2,Y.cell 3⟩
 go_in;go_upto_region 1 with fail;obtain⟨hI,x1,x2,x3⟩:=ay.out _ _ rfl rfl;generalize (w.alloc _).alloc _=w2 at*;have ai:=jH hI;clear hI ay aB ax;go_wp2_with fail;refine(C _ ai.mm).mono ?_;obtain⟨aS,m2⟩:=R;dsimp only at A Q;cases aS with
 |error er=>
  rintro e w3 ⟨E,I,rfl⟩;dsimp only at I;have J:jX (FmI g w mt m2 w3):=jH ⟨pg ai.res E (λx ag e=>by have:=A.out x (Q.out▸ag);omega),I,pY ai.gr E⟩;clear E I x1 x2 x3;obtain⟨r0,r1,r2,z0,aT,aU⟩:=J.res.b3;have aD:=jH (qD (a:=nk nJ 0) (b:=nz ⟨#[]⟩) (c:=nz ⟨#[]⟩) J.res);have N:=jH (BN (a:=nk nJ 0) (b:=nz ⟨#[]⟩) (c:=nz ⟨#[]⟩) J A hg);go_wp2_with fail;rw[qR];obtain⟨aF,aG,d2⟩:=aD.a3;refine jZ (v:=nE #[nD #[nk nJ 0,nz ⟨#[]⟩,nz ⟨#[]⟩],nk nI 0,nk nI (er:Nat)]) (by simp[kQ,Tryz.results110,go_sem,aF,aG,d2]) rfl ⟨N.1,N.2,rfl⟩
 |ok y=>
  obtain⟨⟨aj,ak,au⟩,fn⟩:=y;rintro e w3 ⟨E,I,rfl⟩;dsimp only at I⊢;have J:jX (FmI g w mt m2 w3):=jH ⟨pg ai.res E (λx ag e=>by have:=A.out x (Q.out▸ag);omega),I,pY ai.gr E⟩;clear E I x1 x2 x3;obtain⟨r0,r1,r2,z0,aT,aU⟩:=J.res.b3;have aD:=jH (qD (a:=nk nJ aj) (b:=nz ak) (c:=nz au) J.res);have N:=jH (BN (a:=nk nJ aj) (b:=nz ak) (c:=nz au) J A hg);go_wp2_with fail;rw[qR];obtain⟨aF,aG,d2⟩:=aD.a3;refine jZ (v:=nE #[nD #[nk nJ aj,nz ak,nz au],nk nI (fn:Nat),nk nI 0]) (by simp[kQ,Tryz.results110,go_sem,aF,aG,d2]) rfl ⟨N.1,N.2,rfl⟩
def qw(c:oF)(s:ByteArray)(mt:Option (Nat×MS)):Except Nat (vP×Nat)×Option (Nat×MS):=
 if c.fmt=1 then(uP s c.mag c.pF,mt)else if c.fmt=2 then(wN (pq c.pF s),mt)else sW c.pF c.qc s mt
theorem zJ(c:oF)(s:ByteArray)(mt:Option (Nat×MS)):oM (qw c s mt).2=oM mt:=by
 unfold qw;split;.rfl
 .split
  .rfl
  .exact ED _ _ _ _
def WE(k:Nat):jP:=if k=1 then .func (.func 100) #[] #[]else if k=2 then .func (.func 105) #[] #[]else .func (.func 110) #[] #[]
structure Jc(g:Nat)(c:oF)(w:jJ)(mt:Option (Nat×MS))(W:jJ):Prop where
 cf:nP W g #[nk nI c.fmt,nk nK c.mag,nk nI c.pF,nk nI c.qc,nk nI c.dep,nk nI c.oV] tC
 res:nP W (g+1) #[nk nJ 0,nz ⟨#[]⟩,nz ⟨#[]⟩] rq
 gr:w.grownBy W (oM mt)
section
variable {g:Nat}{c:oF}{w W W':jJ}{mt:Option (Nat×MS)}
theorem Jc.s(h:Jc g c w mt W):Jc g c w mt W/\W.cell? (Z g 0 V)=U (nk nI c.fmt)/\W.cell? (Z g 1 V)=U (nk nK c.mag)/\W.cell? (Z g 2 V)=U (nk nI c.pF)/\
 W.cell? (Z g 3 V)=U (nk nI c.qc)/\W.cell? (Z g 4 V)=U (nk nI c.dep)/\W.cell? (Z g 5 V)=U (nk nI c.oV):=⟨h,h.cf.cell 0,h.cf.cell 1,h.cf.cell 2,h.cf.cell 3,h.cf.cell 4,h.cf.cell 5⟩
theorem Jc.below(h:Jc g c w mt W)(hb:jS W.heap.size W W'):Jc g c w mt W':=⟨Below.blk hb h.cf h.cf.lt,Below.blk hb h.res h.res.lt,pY h.gr (o6 hb)⟩
theorem Jc.drew(h:Jc g c w mt W):Jc g c w mt W.drew:=⟨h.cf,h.res,⟨h.gr.os,h.gr.tape,h.gr.output,h.gr.size,h.gr.block⟩⟩
theorem Jc.grow(h:Jc g c w mt W)(hg:W.grownBy W' (oM mt))(hlt:∀x,oM mt=U x->x<g):Jc g c w mt W':=
 ⟨pg h.cf hg (λx A e=>by have:=hlt x A;omega),pg h.res hg (λx A e=>by have:=hlt x A;omega),pY h.gr hg⟩
theorem Jc.put(h:Jc g c w mt W){k:Nat}(hk:g+1<k)(A:w.heap.size<=g)(a b d:jP):Jc g c w mt (xZ W k a b d):=
 have o:∀{W:jJ}{n:Nat}{cs:Array jP}{t:ko}(i:Nat)(v:jP),nP W n cs t->n≠k->nP (W.setCell (Z k i V) v) n cs t:=λi v h hn=>h.setOther (a:=(Z k i V)) hn v
 ⟨o 2 _ (o 1 _ (o 0 _ h.cf nL) nL) nL,o 2 _ (o 1 _ (o 0 _ h.res nL) nL) nL, rV (p:=(Z k 2 V)) (rV (p:=(Z k 1 V)) (rV (p:=(Z k 0 V)) h.gr nT _) nT _) nT _⟩
theorem a0L(h:pO W mt):pO W.drew mt:=by cases mt<;>exact h
end
theorem Jd{W:jJ}{c:Nat}{b d:jP}{t:ko}(h:nP W c #[a,b,d] t):W.cell? (Z c 0 V)=U a/\W.cell? (Z c 1 V)=U b/\W.cell? (Z c 2 V)=U d/\
  W.frozen? (Z c 0 V)=false/\W.frozen? (Z c 1 V)=false/\W.frozen? (Z c 2 V)=false:=⟨h.cell 0,h.cell 1,h.cell 2,h.free 0,h.free 1,h.free 2⟩
structure WnF(g:Nat)(c:oF)(w:jJ)(mt m2:Option (Nat×MS))(a b d:jP)(k:Nat)(W:jJ):Prop where
 wn:Jc g c w mt W
 fr:nP W k #[a,b,d] rq
 mm:pO W m2
theorem a0M{g k:Nat}{c:oF}{w W:jJ}{mt m2:Option (Nat×MS)}{b d a0 b0 A:jP}(h:Jc g c w mt W)(C:nP W k #[a0,b0,A] rq)(hk:g+1<k)(E:w.heap.size<=g)(hlt:∀x,oM m2=U x->x<g)(I:pO W m2):
  WnF g c w mt m2 a b d k (xZ W k a b d):=
 have q:∀i,∀x,oM m2=U x->x≠((Z k i V):lH).block:=λi x J e=>by have:=hlt x J;simp at e;omega
 ⟨h.put hk E a b d,qD C,xN (xN (xN I (q 0) _) (q 1) _) (q 2) _⟩
theorem DX(c:oF)(s:ByteArray)(mt:Option (Nat×MS)):∀er,(qw c s mt).1=.error er->1<=er:=by
 intro er h;unfold qw at h;split at h
 .dsimp only at h
  unfold uP at h;have hn:=MH (q8 s c.mag c.pF) 9 0;split at h;.cases h
  .rename_i h0;cases h;omega
 .split at h
  .dsimp only at h
   unfold wN at h;split at h;.rename_i h0;cases h;omega
   .cases h
  .unfold sW at h
   split at h;.rename_i h0;cases h;omega
   .split at h
    .rename_i e m2 A
     have h1:=Gf _ _ _ e (by rw[A]);cases h;unfold Cu;split<;>omega
    .cases h
theorem MN(c:oF)(k:Nat)(hk:c.fmt=k)(s:ByteArray)(mt:Option (Nat×MS))(w:jJ)(hs:s.size<=j3)(hc:oJ c=true)(A:c.wf)(C:pO w mt):
  ∃f,WE k=.func (.func f) #[] #[]/\jV jI f #[c.v,IZ mt,nz s] w (zH (qw c s mt) mt w):=by
 have E:=(qU hc).1;obtain rfl|rfl|rfl:k=1\/k=2\/k=3:=nL
 .have:qw c s mt=(uP s c.mag c.pF,mt):=if_pos hk
  rw[this];exact⟨_,rfl,WB c s mt w hs hc A C⟩
 .have:qw c s mt=(wN (pq c.pF s),mt):=by unfold qw;rw[if_neg nL,if_pos nL]
  rw[this];exact⟨_,rfl,Ud c s mt w hs hc A C⟩
 .have:qw c s mt=sW c.pF c.qc s mt:=by unfold qw;rw[if_neg nL,if_neg nL]
  rw[this];exact⟨_,rfl,Pv c s mt w hs hc A C⟩
theorem Rw(W:jJ):l7 jI (kS 142 (nD zi) (nk nI 1)) W=.ok (nD #[.func (.func 97) #[] #[],.func (.func 98) #[] #[],.func (.func 100) #[] #[],.func (.func 102) #[] #[]]) W:=rfl
theorem Rx(W:jJ):l7 jI (kS 142 (nD zi) (nk nI 2)) W=.ok (nD #[.func (.func 96) #[] #[],.func (.func 103) #[] #[],.func (.func 105) #[] #[],.func (.func 107) #[] #[]]) W:=rfl
theorem Ry(W:jJ):l7 jI (kS 142 (nD zi) (nk nI 3)) W=.ok (nD #[.func (.func 96) #[] #[],.func (.func 108) #[] #[],.func (.func 110) #[] #[],.func (.func 107) #[] #[]]) W:=rfl
theorem Pw(a b c d:jP)(W:jJ):l7 jI (Instr.field 141 (nD #[a,b,c,d]) 2) W=.ok c W:=rfl
end
end Go.Proofs.YtamfcjmhnndbdaaGreatDoor


