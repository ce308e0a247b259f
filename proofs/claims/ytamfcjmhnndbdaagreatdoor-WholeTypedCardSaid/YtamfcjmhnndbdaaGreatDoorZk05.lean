/- Part 5 of the proof. -/
import Derived.Test.YtamfcjmhnndbdaaGreatDoorZk00
import Derived.Test.YtamfcjmhnndbdaaGreatDoorZk01
import Derived.Test.YtamfcjmhnndbdaaGreatDoorZk03
import Derived.Test.YtamfcjmhnndbdaaGreatDoorZk04
import Derived.Maps.OwnSet
import Derived.Maps.OwnOps
import Derived.Maps.RangeWalk
import Derived.WalkSpells
import Derived.Deep.CutBlock
import Derived.Deep.DeepCutAuto
import Derived.WalkKit
import Derived.Deep.Slices
import Derived.Deep.Fields
import Derived.ChangeSame
import Derived.Handy
open Go.Value renaming agg→lC,bool→lu,int→lg,pointer→lq,slice→lh,string→ll,tuple→lD
open Go.Obj renaming cells→lG
open Go.IntKind renaming i64→lH,u32→lJ,u64→lI
open Go.Ending renaming returned→lF
open Go.Lib renaming hid→iF
open Go.Proofs.Tryz renaming prog→iG
open Go renaming World→iH,Value→iJ,Calls→iU,bodyPost_ret→iV,maxLen→jb,TypeId→jg,undef→jo,results→jr,Program→kg,Addr→kr,Oper→kH
open Nat renaming le_refl→iI,le_trans→je,zero_le→jy,le_succ→jF,lt_or_ge→jG,add_assoc→jI,add_mul→j6,le_add_right→ku,le_of_eq→kX
open Go.RowKit renaming Below→iK,Hid→iW,intOf→jA
open Go.RowKit.Below renaming refl→iL,heap_setCell→iX
open List renaming getElem?_cons_succ→iM,getElem?_cons_zero→iO,getElem?_toArray→iP,length_cons→jm,getElem?_eq_some_iff→jH,mem_cons→kD,map_cons→kY
open Bool renaming and_eq_true→iY
open ByteArray renaming size_extract→ja
open Go.World renaming setCell→jf
open Go.Instr renaming index→jB,lookup→j5,makeFunc→kL
open Go.Sem renaming run→kJ
open Go.Lit renaming int→kP
namespace Go.Proofs.YtamfcjmhnndbdaaGreatDoor
set_option linter.unusedVariables false
set_option linter.unusedSimpArgs false
set_option maxRecDepth 100000
set_option maxHeartbeats 8000000
variable {a:iJ}{r:RS}{e:Ending}
section
open Go.RowKit
structure uN where
 id:Nat
 name:ByteArray
 body:ByteArray
def uz(R:Except Nat (uN×Nat))(w:iH)(e:Ending)(w':iH):Prop:=iK w.heap.size w w'/\match R with
 | .error er=>e=lF (lD #[lC #[lg lI 0,ll ⟨#[]⟩,ll ⟨#[]⟩],lg lH 0,lg lH (er:Nat)])
 | .ok y=>e=lF (lD #[lC #[lg lI y.1.id,ll y.1.name,ll y.1.body],lg lH (y.2:Nat),lg lH 0])
def xw(s:ByteArray)(m most:Int):Nat->Int
 |0=>Fg (decide (4<=s.size)) 2
 |1=>Fg ((nT (s.extract 0 4).data.toList:Int)==m) 9
 |2=>Fg (decide (16<=s.size)) 2
 |3=>Fg (zL (s.extract 4 16)).isSome 3
 |4=>Fg (decide (20<=s.size)) 2
 |5=>Fg (decide ((sw s:Int)<=most)) 5
 |6=>Fg (decide (24<=s.size)) 2
 |7=>Fg (decide (24+sw s<=s.size)) 2
 |8=>Fg (Ow (s.extract 24 (24+sw s)) (s.extract 20 24)) 10
 |_=>0
def uP(f:Nat->Int):Nat->Nat->Int
 |0,_=>0
 |n+1,k=>if f k=0 then uP f n (k+1)else f k
theorem tX{f:Nat->Int}{n k:Nat}(h:f k=0):uP f (n+1) k=uP f n (k+1):=if_pos h
theorem rH{f:Nat->Int}{n k:Nat}(h:f k≠0):uP f (n+1) k=f k:=if_neg h
def rW(s:ByteArray)(m most:Int):Except Nat (uN×Nat):=
 if uP (xw s m most) 9 0=0 then .ok (⟨0,uS s,s.extract 24 (24+sw s)⟩,24+sw s)else .error (uP (xw s m most) 9 0).toNat
theorem rJ{b:Bool}{er:Int}(he:er≠0)(h:Fg b er=0):b=true:=by
 cases b;.exact absurd h (by simpa [Fg]using he)
 .rfl
theorem Mh(b:Bool){er:Int}(h:0<=er):0<=Fg b er:=by unfold Fg;split<;>omega
theorem o9(s:ByteArray)(m most:Int):∀k,0<=xw s m most k:=by
 intro k;unfold xw;split<;>first|exact Mh _ lM|exact Int.le_refl _
theorem JN{f:Nat->Int}(h:∀k,0<=f k):∀n k,0<=uP f n k:=by
 intro n;induction n with
 |zero=>intro k;exact Int.le_refl _
 |succ n A=>intro k;unfold uP;split;exact A _;exact h k
abbrev pg:jg:=52
abbrev Ll:jg:=9
abbrev InT:jg:=3
abbrev NuT:jg:=187
def DI(g r:Nat):iJ:=.func (.func 133) #[] #[lq (some ⟨g+2,0,none⟩),lq (some ⟨r,0,none⟩)]
structure RG(g:Nat)(w0:iH)(m most:Int)(s nm:ByteArray)(ln:Int)(W:iH):Prop where
 bm:lN W g #[lg lJ m] 22
 bo:lN W (g+1) #[lg lH most] InT
 bs:lN W (g+2) #[ll s] Ll
 br:lN W (g+3) #[lg lI 0,ll ⟨#[]⟩,ll ⟨#[]⟩] pg
 bn:lN W (g+4) #[ll nm] Ll
 bl:lN W (g+5) #[lg lH ln] InT
 bf:lN W (g+6) #[.func (.func 131) #[] #[lq (some ⟨g+2,0,none⟩)]] NuT
 r1:lN W (g+7) #[lg lH 4] InT
 r2:lN W (g+8) #[lg lH 16] InT
 r3:lN W (g+9) #[lg lH 20] InT
 r4:lN W (g+10) #[lg lH 24] InT
 nV:iK g w0 W
section
variable {g:Nat}{w0 W:iH}{m most ln:Int}{s nm:ByteArray}
theorem RG.below{A:iH}(h:RG g w0 m most s nm ln W)(hb:iK W.heap.size W A):RG g w0 m most s nm ln A:=
 ⟨Below.blk hb h.bm h.bm.lt,Below.blk hb h.bo h.bo.lt,Below.blk hb h.bs h.bs.lt,Below.blk hb h.br h.br.lt,Below.blk hb h.bn h.bn.lt,Below.blk hb h.bl h.bl.lt,Below.blk hb h.bf h.bf.lt,
  Below.blk hb h.r1 h.r1.lt,Below.blk hb h.r2 h.r2.lt,Below.blk hb h.r3 h.r3.lt,Below.blk hb h.r4 h.r4.lt,h.nV.trans (hb.mono (Nat.le_of_lt h.bm.lt))⟩
theorem RG.Wz(h:RG g w0 m most s nm ln W)(n2:ByteArray):RG g w0 m most s n2 ln (W.setCell ⟨g+4,0,none⟩ (ll n2)):=
 have o:∀{c:Nat}{cs:Array iJ}{t:jg},lN W c cs t->c≠g+4->lN (W.setCell ⟨g+4,0,none⟩ (ll n2)) c cs t:=λh hn=>h.setOther hn _
 ⟨o h.bm lK,o h.bo lK,o h.bs lK,o h.br lK,h.bn.set 0 _,o h.bl lK,o h.bf lK,o h.r1 lK,o h.r2 lK,o h.r3 lK,o h.r4 lK,h.nV.setCell (ku _ _) _⟩
theorem RG.y7(h:RG g w0 m most s nm ln W)(n2:Int):RG g w0 m most s nm n2 (W.setCell ⟨g+5,0,none⟩ (lg lH n2)):=
 have o:∀{c:Nat}{cs:Array iJ}{t:jg},lN W c cs t->c≠g+5->lN (W.setCell ⟨g+5,0,none⟩ (lg lH n2)) c cs t:=λh hn=>h.setOther hn _
 ⟨o h.bm lK,o h.bo lK,o h.bs lK,o h.br lK,o h.bn lK,h.bl.set 0 _,o h.bf lK,o h.r1 lK,o h.r2 lK,o h.r3 lK,o h.r4 lK,h.nV.setCell (ku _ _) _⟩
end
def Ox(g:Nat):Array iJ:=#[DI g (g+7),.func (.func 135) #[] #[lq (some ⟨g+6,0,none⟩),lq (some ⟨g,0,none⟩)],DI g (g+8),
 .func (.func 136) #[] #[lq (some ⟨g+2,0,none⟩),lq (some ⟨g+4,0,none⟩)],DI g (g+9),
 .func (.func 138) #[] #[lq (some ⟨g+6,0,none⟩),lq (some ⟨g+5,0,none⟩),lq (some ⟨g+1,0,none⟩)],DI g (g+10),
 .func (.func 139) #[] #[lq (some ⟨g+2,0,none⟩),lq (some ⟨g+5,0,none⟩)],
 .func (.func 140) #[] #[lq (some ⟨g+2,0,none⟩),lq (some ⟨g+5,0,none⟩)]]
abbrev RH:jg:=191
theorem uA{w W:iH}{b:Nat}{cs:Array iJ}{t:jg}(h:lN w b cs t)(o:Obj)(he:w.alloc o=W):lN W b cs t:=by subst he;exact h.alloc o
theorem Y5{g:Nat}{w W:iH}{m most:Int}{s:ByteArray}(hg:w.heap.size=g)(h:(((((((((((w.alloc (lG #[lg lJ m] 22)).alloc (lG #[lg lH most] InT)).alloc (lG #[ll s] Ll)).alloc (lG #[lg lI 0,ll ⟨#[]⟩,ll ⟨#[]⟩] pg)).alloc (lG #[ll ⟨#[]⟩] Ll)).alloc (lG #[lg lH 0] InT)).alloc
   (lG #[.func (.func 131) #[] #[lq (some ⟨g+2,0,none⟩)]] NuT)).alloc (lG #[lg lH 4] InT)).alloc (lG #[lg lH 16] InT)).alloc (lG #[lg lH 20] InT)).alloc (lG #[lg lH 24] InT)).alloc (lG (Ox g) RH)=W):
  RG g w m most s ⟨#[]⟩ 0 W/\lN W (g+11) (Ox g) RH:=by
 obtain⟨U,e1⟩:=lV (w.alloc (lG #[lg lJ m] 22));rw[e1]at h;obtain⟨a2,e2⟩:=lV (U.alloc (lG #[lg lH most] InT));rw[e2]at h;obtain⟨a3,e3⟩:=lV (a2.alloc (lG #[ll s] Ll));rw[e3]at h;obtain⟨a4,e4⟩:∃a,a3.alloc (lG #[lg lI 0,ll ⟨#[]⟩,ll ⟨#[]⟩] pg)=a:=⟨_,rfl⟩;rw[e4]at h;obtain⟨a5,e5⟩:∃a,a4.alloc (lG #[ll ⟨#[]⟩] Ll)=a:=⟨_,rfl⟩;rw[e5]at h;obtain⟨a6,C⟩:=lV (a5.alloc (lG #[lg lH 0] InT));rw[C]at h;obtain⟨V,E⟩:∃a,a6.alloc (lG #[.func (.func 131) #[] #[lq (some ⟨g+2,0,none⟩)]] NuT)=a:=⟨_,rfl⟩;rw[E]at h;obtain⟨Y,J⟩:=lV (V.alloc (lG #[lg lH 4] InT));rw[J]at h;obtain⟨a9,N⟩:=lV (Y.alloc (lG #[lg lH 16] InT));rw[N]at h;obtain⟨Z,O⟩:=lV (a9.alloc (lG #[lg lH 20] InT));rw[O]at h;obtain⟨au,Q⟩:=lV (Z.alloc (lG #[lg lH 24] InT));rw[Q]at h;have z:∀{u v:iH}{o:Obj}{n:Nat},u.alloc o=v->u.heap.size=n->v.heap.size=n+1:=λh hn=>by subst h;simp[hn]
 have aa:=z e1 hg;have ae:=z e2 aa;have z3:=z e3 ae;have z4:=z e4 z3;have z5:=z e5 z4;have af:=z C z5;have ag:=z E af;have ah:=z J ag;have z9:=z N ah;have ai:=z O z9;have av:=z Q ai;have nb:∀{u v:iH}{cs:Array iJ}{t:jg}{n:Nat},u.alloc (lG cs t)=v->u.heap.size=n->lN v n cs t:=λh hn=>by subst h;rw[<-hn];exact lN.new _ _ _
 have u4:=λ{b:Nat} {cs:Array iJ} {t:jg} (A:lN au b cs t)=>uA A _ h
 have aj:=λ{b:Nat} {cs:Array iJ} {t:jg} (A:lN Z b cs t)=>u4 (uA A _ Q)
 have ak:=λ{b:Nat} {cs:Array iJ} {t:jg} (A:lN a9 b cs t)=>aj (uA A _ O)
 have u9:=λ{b:Nat} {cs:Array iJ} {t:jg} (A:lN Y b cs t)=>ak (uA A _ N)
 have u8:=λ{b:Nat} {cs:Array iJ} {t:jg} (A:lN V b cs t)=>u9 (uA A _ J)
 have u7:=λ{b:Nat} {cs:Array iJ} {t:jg} (A:lN a6 b cs t)=>u8 (uA A _ E)
 have u6:=λ{b:Nat} {cs:Array iJ} {t:jg} (A:lN a5 b cs t)=>u7 (uA A _ C)
 have u5:=λ{b:Nat} {cs:Array iJ} {t:jg} (A:lN a4 b cs t)=>u6 (uA A _ e5)
 have v4:=λ{b:Nat} {cs:Array iJ} {t:jg} (A:lN a3 b cs t)=>u5 (uA A _ e4)
 have v3:=λ{b:Nat} {cs:Array iJ} {t:jg} (A:lN a2 b cs t)=>v4 (uA A _ e3)
 have v2:=λ{b:Nat} {cs:Array iJ} {t:jg} (A:lN U b cs t)=>v3 (uA A _ e2)
 refine⟨⟨v2 (nb e1 hg),v3 (nb e2 aa),v4 (nb e3 ae),u5 (nb e4 z3),u6 (nb e5 z4),u7 (nb C z5),u8 (nb E af),u9 (nb J ag),ak (nb N ah),aj (nb O z9),u4 (nb Q ai),?_⟩,nb h av⟩;subst h Q O N J E C e5 e4 e3 e2 e1;have q:=λ(u:iH) (ax:g<=u.heap.size) (b:iK g w u) (o:Obj)=>b.alloc ax o
 exact q _ lK (q _ lK (q _ lK (q _ lK (q _ lK (q _ lK (q _ lK (q _ lK (q _ lK (q _ lK (q _ lK (q _ lK (iL _ _) _) _) _) _) _) _) _) _) _) _) _) _
def vF(w:iH)(g:Nat)(a b c:iJ):iH:=((w.setCell ⟨g,0,none⟩ a).setCell ⟨g,1,none⟩ b).setCell ⟨g,2,none⟩ c
theorem oQ(w:iH)(g:Nat)(a b c:iJ):((w.setCell ⟨g,0,none⟩ a).setCell ⟨g,1,none⟩ b).setCell ⟨g,2,none⟩ c=vF w g a b c:=rfl
theorem oz{w:iH}{g:Nat}{b c a0 b0 c0:iJ}{t:jg}(h:lN w g #[a0,b0,c0] t):lN (vF w g a b c) g #[a,b,c] t:=((h.set 0 _).set 1 _).set 2 _
theorem Y6{s:ByteArray}{m most E v:Int}{w w':iH}(A:uP (xw s m most) 9 0=E)(he:E=v)(C:v≠0)(hn:0<=v)(hb:iK w.heap.size w w'):
  uz (rW s m most) w (lF (lD #[lC #[lg lI 0,ll ⟨#[]⟩,ll ⟨#[]⟩],lg lH 0,lg lH v])) w':=by
 unfold uz rW;rw[A,he,if_neg C];refine⟨hb,?_⟩;dsimp only;rw[Int.toNat_of_nonneg hn]
theorem Y7(a0 A a2 a3 a4 a5 a6 C E:iJ)(W:iH):kJ iG (jB RH (lC #[a0,A,a2,a3,a4,a5,a6,C,E]) (lg lH 0)) W=.ok a0 W:=rfl
theorem Y8(a0 A a2 a3 a4 a5 a6 C E:iJ)(W:iH):kJ iG (jB RH (lC #[a0,A,a2,a3,a4,a5,a6,C,E]) (lg lH 1)) W=.ok A W:=rfl
theorem Y9(a0 A a2 a3 a4 a5 a6 C E:iJ)(W:iH):kJ iG (jB RH (lC #[a0,A,a2,a3,a4,a5,a6,C,E]) (lg lH 2)) W=.ok a2 W:=rfl
theorem Za(a0 A a2 a3 a4 a5 a6 C E:iJ)(W:iH):kJ iG (jB RH (lC #[a0,A,a2,a3,a4,a5,a6,C,E]) (lg lH 3)) W=.ok a3 W:=rfl
theorem Zb(a0 A a2 a3 a4 a5 a6 C E:iJ)(W:iH):kJ iG (jB RH (lC #[a0,A,a2,a3,a4,a5,a6,C,E]) (lg lH 4)) W=.ok a4 W:=rfl
theorem Zc(a0 A a2 a3 a4 a5 a6 C E:iJ)(W:iH):kJ iG (jB RH (lC #[a0,A,a2,a3,a4,a5,a6,C,E]) (lg lH 5)) W=.ok a5 W:=rfl
theorem Zd(a0 A a2 a3 a4 a5 a6 C E:iJ)(W:iH):kJ iG (jB RH (lC #[a0,A,a2,a3,a4,a5,a6,C,E]) (lg lH 6)) W=.ok a6 W:=rfl
theorem Ze(a0 C a2 a3 a4 a5 a6 A E:iJ)(W:iH):kJ iG (jB RH (lC #[a0,C,a2,a3,a4,a5,a6,A,E]) (lg lH 7)) W=.ok A W:=rfl
theorem Zf(a0 C a2 a3 a4 a5 a6 E A:iJ)(W:iH):kJ iG (jB RH (lC #[a0,C,a2,a3,a4,a5,a6,E,A]) (lg lH 8)) W=.ok A W:=rfl
theorem zN{p:Prop}(h:p:=by
 obtain⟨r0,r1,r2,z0,z1,z2⟩:=HI3.out.br.b3;have HQ:=iF (oz (a:=lg lI 0) (b:=ll ⟨#[]⟩) (c:=ll ⟨#[]⟩) HI3.out.br);have HBL:iW (iK w.heap.size w (vF w3 (g+3) (lg lI 0) (ll ⟨#[]⟩) (ll ⟨#[]⟩))):=iF (hg.symm▸(((HI3.out.nV.setCell (p:=⟨g+3,0,none⟩) (ku _ _) _).setCell (p:=⟨g+3,1,none⟩) (ku _ _) _).setCell (p:=⟨g+3,2,none⟩) (ku _ _) _));go_wp2_with fail;rw[oQ];obtain⟨d0,d1,d2⟩:=HQ.out.a3;refine iV (v:=lD #[lC #[lg lI 0,ll ⟨#[]⟩,ll ⟨#[]⟩],lg lH 0,lg lH v]) (by simp[jr,Tryz.results101,go_sem,d0,d1,d2]) rfl ?_;rw[<-HP.out];exact Y6 HE.out WA.out (by simpa using hne) hnn HBL.out):p:=h
theorem Qt(m most:Int)(s:ByteArray)(w:iH)(aT:(kP lJ m).wf=true)(aY:most<=65536)(hs:s.size<=jb):
  iU iG 101 #[lg lJ m,lg lH most,ll s] w (uz (rW s m most) w):=by
 have aB:∀(fn:Fn)(first cap:Array iJ)(w:iH),(kL fn first cap).run iG w=.ok (.func fn first cap) w:=λ_ _ _ _=>rfl
 obtain⟨g,hg⟩:=lV w.heap.size;have ak:=iF G9;have aZ:=Y7;have bg:=Y8;have bq:=Y9;have bu:=Za;have bz:=Zb;have bA:=Zc;have bB:=Zd;have bC:=Ze;have bD:=Zf;have ag:=iF hs;have bE:s.size<=9223372036854775807:=by unfold jb at hs;omega
 clear hs;obtain⟨aU,av⟩:=lV (uz (rW s m most) w);have HP:=iF av;rw[av];clear av;go_in;go_upto_region 5 with fail;simp only[jI,Nat.reduceAdd];go_wp2_with fail;refine(ak.out _ _ _).mono ?_;rintro e w2 ⟨rfl,rfl⟩;go_wp2_with fail;refine(ak.out _ _ _).mono ?_;rintro e w2 ⟨rfl,rfl⟩;go_wp2_with fail;refine(ak.out _ _ _).mono ?_;rintro e w2 ⟨rfl,rfl⟩;go_wp2_with fail;refine(ak.out _ _ _).mono ?_;rintro e w2 ⟨rfl,rfl⟩;go_upto_region 6 with fail;simp only[jI,Nat.reduceAdd,hg];refine r9 (λW=>RG g w m most s ⟨#[]⟩ 0 W/\lN W (g+11) (Ox g) RH) (Y5 hg rfl) ?_;rintro bI ⟨hI0,ae⟩;have aC:=ae.cell 0;have aD:=ae.cell 1;have aF:=ae.cell 2;have aG:=ae.cell 3;have aH:=ae.cell 4;have aI:=ae.cell 5;have aJ:=ae.cell 6;have aK:=ae.cell 7;have aL:=ae.cell 8;simp only[Ox,DI,iP,iO,iM]at aC aD aF aG aH aI aJ aK aL;have aM:=iF hI0;obtain⟨E,aN⟩:=lV (uP (xw s m most) 9 0);have HE:=iF aN;clear ae hI0 aN aB;go_wp2_with fail;go_loopw [34] (λkv aV=>∃(k:Nat) (nm:ByteArray) (ln:Int),kv=lg lH (k:Int)/\k<=9/\iW (RG g w m most s nm ln aV)/\iW (uP (xw s m most) (9 - k) k=E)/\iW (∀i,i<k->xw s m most i=0)/\iW (3<k->nm=uS s)/\iW (5<k->ln=(sw s:Nat))) (λkv _=>9 -(jA kv).toNat);case atStart=>exact⟨0,_,_,rfl,lK,aM,HE,iF (λi hi=>absurd hi lK),iF (λh=>absurd h lK),iF (λh=>absurd h lK)⟩
 case round=>
  obtain⟨k,nm,ln,rfl,hk,J,V,Y,af,ai⟩:=hrel;have aa:=iF J.out.br;clear aC aD aF aG aH aI aJ aK aL;by_cases bF:k<9;case neg=>
   obtain rfl:k=9:=lK;obtain rfl:=af.out lM;obtain rfl:=ai.out lM;have aO:iW (E=0):=iF V.out.symm;have aW:24+sw s<=s.size:=of_decide_eq_true (rJ lM (Y.out 7 lM));have aP:(sw s:Int)<=most:=of_decide_eq_true (rJ lM (Y.out 5 lM));have aj:iW (uz (rW s m most) w=λe w'=>iK w.heap.size w w'/\e=lF (lD #[lC #[lg lI 0,ll (uS s),ll (s.extract 24 (24+sw s))],lg lH ((24+sw s:Nat):Int),lg lH 0])):=iF (by
    unfold uz rW;rw[HE.out,aO.out,if_pos rfl];rfl)
   obtain⟨N,aQ⟩:=lV (sw s);obtain⟨ax,au⟩:=lV (uS s);rw[aQ]at aW aP J aj;rw[au]at J aj;have bJ:=J.out.bs.c0;have bK:=J.out.bn.c0;have bL:=J.out.bl.c0;obtain⟨r0,r1,r2,z0,z1,z2⟩:=J.out.br.b3;have aX:N<=65536:=lK;clear aQ au aa aP;have HI3:=J;have HBL:iW (iK w.heap.size w (vF wr (g+3) (lg lI 0) (ll ax) (ll (s.extract 24 (24+N))))):=iF (hg.symm▸(((HI3.out.nV.setCell (p:=⟨g+3,0,none⟩) (ku _ _) _).setCell (p:=⟨g+3,1,none⟩) (ku _ _) _).setCell (p:=⟨g+3,2,none⟩) (ku _ _) _));have HQ:=iF (oz (a:=lg lI 0) (b:=ll ax) (c:=ll (s.extract 24 (24+N))) HI3.out.br);have bG:24+(N:Int)<=(s.size:Int):=lK;go_upto_region 13 with fail;go_big_region;go_wp2_with fail;obtain⟨d0,d1,d2⟩:=HQ.out.a3;rw[oQ];refine iV (v:=lD #[lC #[lg lI 0,ll ax,ll (s.extract 24 (24+N))],lg lH (24+(N:Int)),lg lH 0]) (by simp[jr,Tryz.results101,go_sem,d0,d1,d2]) rfl ?_;rw[<-HP.out,aj.out];exact⟨HBL.out.drew,lU⟩
  obtain rfl|rfl|rfl|rfl|rfl|rfl|rfl|rfl|rfl:k=0\/k=1\/k=2\/k=3\/k=4\/k=5\/k=6\/k=7\/k=8:=lK
  .
   obtain⟨v,A⟩:=lV (xw s m most 0);have ah:=iF A;have hnn:0<=v:=by rw[<-A];exact o9 _ _ _ _
   have C:iW (iU iG 133 #[lq (some ⟨g+2,0,none⟩),lq (some ⟨g+7,0,none⟩)] wr λe w'=>e=lF (lg lH v)/\w'=wr):=iF (by rw[<-A];exact vZ s 4 4 (g+2) (g+7) wr (J.out.bs.cell 0) (J.out.r1.cell 0) rfl ag.out);by_cases O:v=0
   .subst O
    have Q:iW (uP (xw s m most) (9 - 1) 1=E):=iF (by rw[<-V.out];exact(tX A).symm);have U:iW (∀i,i<1->xw s m most i=0):=iF λi hi=>by
     rcases jG i 0 with h|h
     .exact Y.out i h
     .obtain rfl:i=0:=lK
      exact A
    clear A hnn aa;go_wp2_with fail;refine C.out.mono ?_;rintro e w3 ⟨rfl,rfl⟩;go_wp2_with fail;go_roundw;case rel=>exact⟨1,nm,ln,rfl,lK,J,Q,U,iF (λh=>absurd h lK),iF (λh=>absurd h lK)⟩
    case measure=>simp[jA]
   .have hne:(v !=0)=true:=by simp[O]
    have WA:iW (E=v):=iF (by rw[<-V.out];exact(rH (by rw[A];exact O)).trans A);clear A O;go_wp2_with fail;refine C.out.mono ?_;rintro e w3 ⟨rfl,rfl⟩;have HI3:=J;exact zN
  .
   have aR:4<=s.size:=of_decide_eq_true (rJ lM (Y.out 0 lM));obtain⟨v,A⟩:=lV (xw s m most 1);have ah:=iF A;have hnn:0<=v:=by rw[<-A];exact o9 _ _ _ _
   have C:iW (iU iG 135 #[lq (some ⟨g+6,0,none⟩),lq (some ⟨g,0,none⟩)] wr λe w'=>e=lF (lg lH v)/\iK wr.heap.size wr w'):=iF (by rw[<-A];exact Mg s m (g+2) g (g+6) wr (J.out.bs.cell 0) J.out.bs.lt (J.out.bm.cell 0) J.out.bm.lt aT (J.out.bf.cell 0) J.out.bf.lt aR ag.out);by_cases O:v=0
   .subst O
    have Q:iW (uP (xw s m most) (9 - 2) 2=E):=iF (by rw[<-V.out];exact(tX A).symm);have U:iW (∀i,i<2->xw s m most i=0):=iF λi hi=>by
     rcases jG i 1 with h|h
     .exact Y.out i h
     .obtain rfl:i=1:=lK
      exact A
    clear A hnn aa;go_wp2_with fail;refine C.out.mono ?_;rintro e w3 ⟨rfl,Z⟩;have HI3:=iF (J.out.below Z);clear Z;go_wp2_with fail;go_roundw;case rel=>exact⟨2,nm,ln,rfl,lK,HI3,Q,U,iF (λh=>absurd h lK),iF (λh=>absurd h lK)⟩
    case measure=>simp[jA]
   .have hne:(v !=0)=true:=by simp[O]
    have WA:iW (E=v):=iF (by rw[<-V.out];exact(rH (by rw[A];exact O)).trans A);clear A O;go_wp2_with fail;refine C.out.mono ?_;rintro e w3 ⟨rfl,Z⟩;have HI3:=iF (J.out.below Z);clear Z;exact zN
  .
   obtain⟨v,A⟩:=lV (xw s m most 2);have ah:=iF A;have hnn:0<=v:=by rw[<-A];exact o9 _ _ _ _
   have C:iW (iU iG 133 #[lq (some ⟨g+2,0,none⟩),lq (some ⟨g+8,0,none⟩)] wr λe w'=>e=lF (lg lH v)/\w'=wr):=iF (by rw[<-A];exact vZ s 16 16 (g+2) (g+8) wr (J.out.bs.cell 0) (J.out.r2.cell 0) rfl ag.out);by_cases O:v=0
   .subst O
    have Q:iW (uP (xw s m most) (9 - 3) 3=E):=iF (by rw[<-V.out];exact(tX A).symm);have U:iW (∀i,i<3->xw s m most i=0):=iF λi hi=>by
     rcases jG i 2 with h|h
     .exact Y.out i h
     .obtain rfl:i=2:=lK
      exact A
    clear A hnn aa;go_wp2_with fail;refine C.out.mono ?_;rintro e w3 ⟨rfl,rfl⟩;go_wp2_with fail;go_roundw;case rel=>exact⟨3,nm,ln,rfl,lK,J,Q,U,iF (λh=>absurd h lK),iF (λh=>absurd h lK)⟩
    case measure=>simp[jA]
   .have hne:(v !=0)=true:=by simp[O]
    have WA:iW (E=v):=iF (by rw[<-V.out];exact(rH (by rw[A];exact O)).trans A);clear A O;go_wp2_with fail;refine C.out.mono ?_;rintro e w3 ⟨rfl,rfl⟩;have HI3:=J;exact zN
  .
   have ay:16<=s.size:=of_decide_eq_true (rJ lM (Y.out 2 lM));obtain⟨v,A⟩:=lV (xw s m most 3);have ah:=iF A;have hnn:0<=v:=by rw[<-A];exact o9 _ _ _ _
   have C:iW (iU iG 136 #[lq (some ⟨g+2,0,none⟩),lq (some ⟨g+4,0,none⟩)] wr λe w'=>e=lF (lg lH v)/\w'=wr.setCell ⟨g+4,0,none⟩ (ll (uS s))):=iF (by rw[<-A];exact Qr s nm (g+2) (g+4) wr (J.out.bs.cell 0) (J.out.bn.cell 0) (J.out.bn.free 0) ay ag.out);by_cases O:v=0
   .subst O
    have Q:iW (uP (xw s m most) (9 - 4) 4=E):=iF (by rw[<-V.out];exact(tX A).symm);have U:iW (∀i,i<4->xw s m most i=0):=iF λi hi=>by
     rcases jG i 3 with h|h
     .exact Y.out i h
     .obtain rfl:i=3:=lK
      exact A
    clear A hnn aa;go_wp2_with fail;refine C.out.mono ?_;rintro e w3 ⟨rfl,rfl⟩;have HI3:=iF (J.out.Wz (uS s));generalize wr.setCell ⟨g+4,0,none⟩ (ll (uS s))=w3 at*;go_wp2_with fail;go_roundw;case rel=>exact⟨4,uS s,ln,rfl,lK,HI3,Q,U,iF (λh=>rfl),iF (λh=>absurd h lK)⟩
    case measure=>simp[jA]
   .have hne:(v !=0)=true:=by simp[O]
    have WA:iW (E=v):=iF (by rw[<-V.out];exact(rH (by rw[A];exact O)).trans A);clear A O;go_wp2_with fail;refine C.out.mono ?_;rintro e w3 ⟨rfl,rfl⟩;have HI3:=iF (J.out.Wz (uS s));generalize wr.setCell ⟨g+4,0,none⟩ (ll (uS s))=w3 at*;exact zN
  .
   obtain⟨v,A⟩:=lV (xw s m most 4);have ah:=iF A;have hnn:0<=v:=by rw[<-A];exact o9 _ _ _ _
   have C:iW (iU iG 133 #[lq (some ⟨g+2,0,none⟩),lq (some ⟨g+9,0,none⟩)] wr λe w'=>e=lF (lg lH v)/\w'=wr):=iF (by rw[<-A];exact vZ s 20 20 (g+2) (g+9) wr (J.out.bs.cell 0) (J.out.r3.cell 0) rfl ag.out);by_cases O:v=0
   .subst O
    have Q:iW (uP (xw s m most) (9 - 5) 5=E):=iF (by rw[<-V.out];exact(tX A).symm);have U:iW (∀i,i<5->xw s m most i=0):=iF λi hi=>by
     rcases jG i 4 with h|h
     .exact Y.out i h
     .obtain rfl:i=4:=lK
      exact A
    clear A hnn aa;go_wp2_with fail;refine C.out.mono ?_;rintro e w3 ⟨rfl,rfl⟩;go_wp2_with fail;go_roundw;case rel=>exact⟨5,nm,ln,rfl,lK,J,Q,U,iF (λh=>af.out lK),iF (λh=>absurd h lK)⟩
    case measure=>simp[jA]
   .have hne:(v !=0)=true:=by simp[O]
    have WA:iW (E=v):=iF (by rw[<-V.out];exact(rH (by rw[A];exact O)).trans A);clear A O;go_wp2_with fail;refine C.out.mono ?_;rintro e w3 ⟨rfl,rfl⟩;have HI3:=J;exact zN
  .
   have az:20<=s.size:=of_decide_eq_true (rJ lM (Y.out 4 lM));obtain⟨v,A⟩:=lV (xw s m most 5);have ah:=iF A;have hnn:0<=v:=by rw[<-A];exact o9 _ _ _ _
   have C:iW (iU iG 138 #[lq (some ⟨g+6,0,none⟩),lq (some ⟨g+5,0,none⟩),lq (some ⟨g+1,0,none⟩)] wr λe w'=>e=lF (lg lH v)/\w'=wr.setCell ⟨g+5,0,none⟩ (lg lH (sw s:Nat))):=iF (by rw[<-A];exact SC s most ln (g+2) (g+6) (g+5) (g+1) wr (J.out.bs.cell 0) (J.out.bf.cell 0) J.out.bl J.out.bo lK az ag.out);by_cases O:v=0
   .subst O
    have Q:iW (uP (xw s m most) (9 - 6) 6=E):=iF (by rw[<-V.out];exact(tX A).symm);have U:iW (∀i,i<6->xw s m most i=0):=iF λi hi=>by
     rcases jG i 5 with h|h
     .exact Y.out i h
     .obtain rfl:i=5:=lK
      exact A
    clear A hnn aa;go_wp2_with fail;refine C.out.mono ?_;rintro e w3 ⟨rfl,rfl⟩;have HI3:=iF (J.out.y7 (sw s:Nat));generalize wr.setCell ⟨g+5,0,none⟩ (lg lH (sw s:Nat))=w3 at*;go_wp2_with fail;go_roundw;case rel=>exact⟨6,nm,(sw s:Nat),rfl,lK,HI3,Q,U,iF (λh=>af.out lK),iF (λh=>rfl)⟩
    case measure=>simp[jA]
   .have hne:(v !=0)=true:=by simp[O]
    have WA:iW (E=v):=iF (by rw[<-V.out];exact(rH (by rw[A];exact O)).trans A);clear A O;go_wp2_with fail;refine C.out.mono ?_;rintro e w3 ⟨rfl,rfl⟩;have HI3:=iF (J.out.y7 (sw s:Nat));generalize wr.setCell ⟨g+5,0,none⟩ (lg lH (sw s:Nat))=w3 at*;exact zN
  .
   obtain⟨v,A⟩:=lV (xw s m most 6);have ah:=iF A;have hnn:0<=v:=by rw[<-A];exact o9 _ _ _ _
   have C:iW (iU iG 133 #[lq (some ⟨g+2,0,none⟩),lq (some ⟨g+10,0,none⟩)] wr λe w'=>e=lF (lg lH v)/\w'=wr):=iF (by rw[<-A];exact vZ s 24 24 (g+2) (g+10) wr (J.out.bs.cell 0) (J.out.r4.cell 0) rfl ag.out);by_cases O:v=0
   .subst O
    have Q:iW (uP (xw s m most) (9 - 7) 7=E):=iF (by rw[<-V.out];exact(tX A).symm);have U:iW (∀i,i<7->xw s m most i=0):=iF λi hi=>by
     rcases jG i 6 with h|h
     .exact Y.out i h
     .obtain rfl:i=6:=lK
      exact A
    clear A hnn aa;go_wp2_with fail;refine C.out.mono ?_;rintro e w3 ⟨rfl,rfl⟩;go_wp2_with fail;go_roundw;case rel=>exact⟨7,nm,ln,rfl,lK,J,Q,U,iF (λh=>af.out lK),iF (λh=>ai.out lK)⟩
    case measure=>simp[jA]
   .have hne:(v !=0)=true:=by simp[O]
    have WA:iW (E=v):=iF (by rw[<-V.out];exact(rH (by rw[A];exact O)).trans A);clear A O;go_wp2_with fail;refine C.out.mono ?_;rintro e w3 ⟨rfl,rfl⟩;have HI3:=J;exact zN
  .
   obtain rfl:=ai.out lM;have aA:24<=s.size:=of_decide_eq_true (rJ lM (Y.out 6 lM));obtain⟨v,A⟩:=lV (xw s m most 7);have ah:=iF A;have hnn:0<=v:=by rw[<-A];exact o9 _ _ _ _
   have C:iW (iU iG 139 #[lq (some ⟨g+2,0,none⟩),lq (some ⟨g+5,0,none⟩)] wr λe w'=>e=lF (lg lH v)/\w'=wr):=iF (by rw[<-A];exact Qs s (sw s) (g+2) (g+5) wr (J.out.bs.cell 0) (J.out.bl.cell 0) aA ag.out);by_cases O:v=0
   .subst O
    have Q:iW (uP (xw s m most) (9 - 8) 8=E):=iF (by rw[<-V.out];exact(tX A).symm);have U:iW (∀i,i<8->xw s m most i=0):=iF λi hi=>by
     rcases jG i 7 with h|h
     .exact Y.out i h
     .obtain rfl:i=7:=lK
      exact A
    clear A hnn aa;go_wp2_with fail;refine C.out.mono ?_;rintro e w3 ⟨rfl,rfl⟩;go_wp2_with fail;go_roundw;case rel=>exact⟨8,nm,_,rfl,lK,J,Q,U,iF (λh=>af.out lK),iF (λh=>rfl)⟩
    case measure=>simp[jA]
   .have hne:(v !=0)=true:=by simp[O]
    have WA:iW (E=v):=iF (by rw[<-V.out];exact(rH (by rw[A];exact O)).trans A);clear A O;go_wp2_with fail;refine C.out.mono ?_;rintro e w3 ⟨rfl,rfl⟩;have HI3:=J;exact zN
  .
   obtain rfl:=ai.out lM;have aS:24+sw s<=s.size:=of_decide_eq_true (rJ lM (Y.out 7 lM));have bH:(sw s:Int)<=most:=of_decide_eq_true (rJ lM (Y.out 5 lM));obtain⟨v,A⟩:=lV (xw s m most 8);have ah:=iF A;have hnn:0<=v:=by rw[<-A];exact o9 _ _ _ _
   have C:iW (iU iG 140 #[lq (some ⟨g+2,0,none⟩),lq (some ⟨g+5,0,none⟩)] wr λe w'=>e=lF (lg lH v)/\iK wr.heap.size wr w'):=iF (by rw[<-A];exact SE s (sw s) (g+2) (g+5) wr (J.out.bs.cell 0) J.out.bs.lt (J.out.bl.cell 0) J.out.bl.lt aS lK ag.out);by_cases O:v=0
   .subst O
    have Q:iW (uP (xw s m most) (9 - 9) 9=E):=iF (by rw[<-V.out];exact(tX A).symm);have U:iW (∀i,i<9->xw s m most i=0):=iF λi hi=>by
     rcases jG i 8 with h|h
     .exact Y.out i h
     .obtain rfl:i=8:=lK
      exact A
    clear A hnn aa;go_wp2_with fail;refine C.out.mono ?_;rintro e w3 ⟨rfl,Z⟩;have HI3:=iF (J.out.below Z);clear Z;go_wp2_with fail;go_roundw;case rel=>exact⟨9,nm,_,rfl,lK,HI3,Q,U,iF (λh=>af.out lK),iF (λh=>rfl)⟩
    case measure=>simp[jA]
   .have hne:(v !=0)=true:=by simp[O]
    have WA:iW (E=v):=iF (by rw[<-V.out];exact(rH (by rw[A];exact O)).trans A);clear A O;go_wp2_with fail;refine C.out.mono ?_;rintro e w3 ⟨rfl,Z⟩;have HI3:=iF (J.out.below Z);clear Z;exact zN
end
section
open Go.RowKit Go.Maps
structure Cs(P:kg)(k:jg)(κ:Type) where
 kv:κ->iJ
 kl:κ->Lit
 ok:κ->Prop
 K:Keyed P k
 lay:∀x,ok x->keyOf P k (kv x)=some (kl x)
 inv:∀v l,keyOf P k v=some l->∃x,v=kv x/\l=kl x
 inj:∀x y,kl x=kl y->x=y
 key:∀x,WideAt.IsKeyLit (kl x)
structure Fh(X:Type) where
 ev:X->iJ
 R:iJ->Option (DataW X×List MemPlace)
 lay:∀x,R (ev x)=some (.held x,[])
 inv:∀v z,R v=some z->∃x,v=ev x/\z=(.held x,[])
section
variable {P:kg}{k e t:jg}{κ X:Type}
def oU(E:Cs P k κ)(F:Fh X)(w:iH)(b n:Nat)(l:List (κ×X)):Prop:=
 ∃A,w.ownsMap P k F.R b n (.map A)/\A.Perm (l.map λp=>(E.kl p.1,.held p.2))/\(l.map Prod.fst).Nodup/\∀p∈l,E.ok p.1
variable {E:Cs P k κ}{F:Fh X}{w:iH}{b n:Nat}{l:List (κ×X)}
theorem oU.made(E:Cs P k κ)(F:Fh X)(w:iH):oU E F (w.alloc (.map #[] 0)) w.heap.size 0 []:=
 ⟨[],World.ownsMap_made w P k F.R,.refl _,List.nodup_nil,λp hp=>by cases hp⟩
theorem oU.lt(h:oU E F w b n l):b<w.heap.size:=let ⟨_,h,_⟩:=h;h.lt
theorem oU.block{w':iH}(h:oU E F w b n l)(hb:w'.heap[b]? =w.heap[b]?):oU E F w' b n l:=by
 obtain⟨D,⟨C,A,J,r⟩,N⟩:=h;exact⟨D,⟨C,A,by rw[hb];exact J,r⟩,N⟩
theorem oU.below{w':iH}(h:oU E F w b n l)(hb:iK w.heap.size w w'):oU E F w' b n l:=h.block (hb.block b h.lt)
theorem Zg{A:List (Lit×DataW X)}(C:A.Perm (l.map λp=>(E.kl p.1,.held p.2))){x:κ}{d:DataW X}(h:(E.kl x,d)∈A):∃y,d=.held y/\(x,y)∈l:=by
 obtain⟨p,hp,he⟩:=List.mem_map.1 (C.mem_iff.1 h);simp only[Prod.mk.injEq]at he;obtain⟨a,y⟩:=p;obtain rfl:a=x:=E.inj _ _ he.1;exact⟨y,he.2.symm,hp⟩
theorem Ha{l:List (κ×X)}(h:(l.map Prod.fst).Nodup)(f:κ×X->Bool):((l.filter f).map Prod.fst).Nodup:=h.sublist (List.filter_sublist.map _)
end
section
variable {P:kg}{k e t:jg}{κ X:Type}[DecidableEq κ]{E:Cs P k κ}{F:Fh X}{w:iH}{b n:Nat}{l:List (κ×X)}
def vo(l:List (κ×X))(x:κ):Option X:=(l.find? λp=>p.1==x).map Prod.snd
theorem FQ{l:List (κ×X)}(hn:(l.map Prod.fst).Nodup){x:κ}{y:X}:vo l x=some y<->(x,y)∈l:=by
 unfold vo;constructor
 .intro h
  obtain⟨p,hp,rfl⟩:=Option.map_eq_some_iff.1 h;have C:=List.find?_some hp;have E:=List.mem_of_find?_eq_some hp;obtain⟨a,b⟩:=p;have:a=x:=by simpa using C
  subst this;exact E
 .intro h
  induction l with
  |nil=>cases h
  |cons p l J=>
   rw[kY,List.nodup_cons]at hn;rw[List.find?_cons];rcases kD.1 h with rfl|h
   .simp
   .have A:(p.1==x)=false:=by
     rw[beq_eq_false_iff_ne];rintro rfl;exact hn.1 (List.mem_map.2 ⟨(p.1,y),h,rfl⟩)
    rw[A];exact J hn.2 h
theorem Qu{l:List (κ×X)}{x:κ}:vo l x=none<->x∉l.map Prod.fst:=by
 unfold vo;rw[Option.map_eq_none_iff,List.find?_eq_none,List.mem_map];constructor;.rintro h ⟨p,hp,rfl⟩;exact h p hp lU
 .intro h p hp he;exact h ⟨p,hp,by simpa using he⟩
theorem oU.at_{A:List (Lit×DataW X)}(C:A.Perm (l.map λp=>(E.kl p.1,.held p.2)))(hn:(l.map Prod.fst).Nodup)(x:κ)(z:X):
  (DataW.map A).atKey (E.kl x) (.held z)=.held ((vo l x).getD z)/\Maps.has (.map A) (E.kl x)=(vo l x).isSome:=by
 cases hg:vo l x with
 |none=>
  have J:∀p∈A,p.1.sameKey (E.kl x)=false:=by
   intro p hp;obtain⟨q,Q,rfl⟩:=List.mem_map.1 (C.mem_iff.1 hp);apply sameKey_ne;intro he;exact Qu.1 hg (List.mem_map.2 ⟨q,Q,E.inj _ _ he⟩)
  constructor
  .show(match A.find? (λp=>p.1.sameKey (E.kl x))with|some p=>p.2|none=> .held z)=_
   rw[List.find?_eq_none.2 (λp hp=>by rw[J p hp];decide)];rfl
  .rw[Maps.has_eq]
   rw[Option.isSome_none,List.any_eq_false];intro p hp;rw[J p hp];decide
 |some y=>
  have hin:(E.kl x,DataW.held y)∈A:=C.mem_iff.2 (List.mem_map.2 ⟨(x,y),(FQ hn).1 hg,rfl⟩);constructor
  .show(match A.find? (λp=>p.1.sameKey (E.kl x))with|some p=>p.2|none=> .held z)=_
   cases N:A.find? (λp=>p.1.sameKey (E.kl x))with
   |none=>
    have:=List.find?_eq_none.1 N _ hin;exact absurd (WideAt.sameKey_self (E.key x)) this
   |some p=>
    obtain⟨U,Z⟩:=p;have V:=List.find?_some N;have Y:=List.mem_of_find?_eq_some N;obtain rfl:U=E.kl x:=WideAt.sameKey_eq V;obtain⟨aa,rfl,O⟩:=Zg C Y;have:=(FQ hn).2 O;rw[hg]at this;cases this;rfl
  .rw[Maps.has_eq,Option.isSome_some,List.any_eq_true]
   exact⟨_,hin,WideAt.sameKey_self (E.key x)⟩
theorem oU.look(h:oU E F w b n l)(ht:P.underlying t=some (.map k e)){z:X}(O:∀w,(zeroValue e).run P w=.ok (F.ev z) w){x:κ}(Q:E.ok x):
  (j5 t (.map (some b)) (E.kv x) false).run P w=.ok (F.ev ((vo l x).getD z)) w:=by
 obtain⟨V,U,C,hn,_⟩:=h;obtain⟨v,ps,A,J⟩:=U.lookup E.K ht (O w) (F.lay z) (E.lay x Q);rw[(oU.at_ C hn x z).1]at J;obtain⟨y,rfl,N⟩:=F.inv _ _ J;simp only[Prod.mk.injEq,DataW.held.injEq]at N;rw[A,N.1]
theorem oU.look_ok(h:oU E F w b n l)(ht:P.underlying t=some (.map k e)){z:X}(O:∀w,(zeroValue e).run P w=.ok (F.ev z) w){x:κ}(Q:E.ok x):
  (j5 t (.map (some b)) (E.kv x) true).run P w=.ok (lD #[F.ev ((vo l x).getD z),lu (vo l x).isSome]) w:=by
 obtain⟨V,U,C,hn,_⟩:=h;obtain⟨v,ps,A,J⟩:=U.look_ok E.K ht (O w) (F.lay z) (E.lay x Q);rw[(oU.at_ C hn x z).1]at J;rw[(oU.at_ C hn x z).2]at A;obtain⟨y,rfl,N⟩:=F.inv _ _ J;simp only[Prod.mk.injEq,DataW.held.injEq]at N;rw[A,N.1]
theorem Mi(x:κ)(l:List (κ×X)):(l.map λp=>(E.kl p.1,DataW.held p.2)).filter (λp=> !p.1.sameKey (E.kl x))=(l.filter λp=>p.1 !=x).map λp=>(E.kl p.1,DataW.held p.2):=by
 rw[List.filter_map];congr 1;apply List.filter_congr;intro p _;show(!(E.kl p.1).sameKey (E.kl x))=(p.1 !=x);by_cases h:p.1=x;.subst h;rw[WideAt.sameKey_self (E.key _)];simp
 .rw[sameKey_ne (λhe=>h (E.inj _ _ he))];simp[bne,h]
theorem oU.store(h:oU E F w b n l)(ht:P.underlying t=some (.map k e)){x:κ}(C:E.ok x)(y:X)(hn:n<jb):
  ∃w',(Instr.mapUpdate t (.map (some b)) (E.kv x) (F.ev y)).run P w=.ok () w'/\oU E F w' b (n+1) ((x,y)::l.filter λp=>p.1 !=x)/\ng b w w':=by
 obtain⟨U,Q,J,N,hok⟩:=h;obtain⟨w',A,O,hg⟩:=Q.update E.K ht hn (E.lay x C) (F.lay y);refine⟨w',A,⟨_,O,?_,?_,?_⟩,hg⟩
 .refine(Go.WideShapes.insert_perm _ _).trans ?_
  rw[kY];refine List.Perm.cons _ ?_;rw[<-Mi];exact J.filter _
 .rw[kY,List.nodup_cons]
  refine⟨?_,Ha N _⟩;rw[List.mem_map];rintro⟨p,hp,he⟩;have:=(List.mem_filter.1 hp).2;rw[he]at this;simp at this
 .intro p hp
  rcases kD.1 hp with rfl|hp
  .exact C
  .exact hok p (List.mem_filter.1 hp).1
end
section
variable {P:kg}{k:jg}{q:IntKind}
def intKeys(hk:P.underlying k=some (.int q)):Cs P k Int where
 kv:=lg q
 kl:=.int q
 ok x:=(kP q x).wf=true
 K:=int_keyed hk
 lay x hx:=keyOf_int_mk hk hx
 inv v l h:=by obtain⟨x,A,C,_⟩:=Maps.keyOf_int_inv hk h;exact⟨x,A,C⟩
 inj x y h:=(Lit.int.inj h).2
 key x:=trivial
def SF(q:IntKind):Fh Int where
 ev:=lg q
 R v:=match v with| lg A x=>if A=q then some (.held x,[])else none|_=>none
 lay x:=lU
 inv v z h:=by
  cases v<;>simp at h;obtain⟨rfl,rfl⟩:=h;exact⟨_,rfl,rfl⟩
end
section
variable {P:kg}{k e t:jg}{κ X:Type}[DecidableEq κ]{E:Cs P k κ}{F:Fh X}{w:iH}{b n:Nat}{l:List (κ×X)}
theorem nZ{ops:Array kH}{rest:List kH}{o:kH}{a:Act}{Q:Exit->Act->iH->Prop}(hg:o.guard=none)(mo xo C:Operand)(J:o.op=.insert t mo xo C)(ht:P.underlying t=some (.map k e))(h:oU E F w b n l)(O:a.eval mo=.map (some b)){x:κ}(U:a.eval xo=E.kv x)(hok:E.ok x){y:X}(V:a.eval C=F.ev y)(hn:n<jb)(Y:∀w',oU E F w' b (n+1) ((x,y)::l.filter λp=>p.1 !=x)->ng b w w'->wpList P ops Q rest (a.put o.dst jo) w'):wpList P ops Q (o::rest) a w:=by
 refine wpList_plain hg λZ N=> ?_
 obtain⟨w',A,r1,r2⟩:=h.store ht hok y hn;unfold Oper.wp;simp[execOp,J,O,U,V,A,Result.andThen];exact N _ _ (Y w' r1 r2)
end
end
section
open Go.RowKit
def ErK:Cs iG 36 Int:=intKeys Tryz.underlying36
def ErE:Fh Int:=SF lH
def zO(er:Int):Int:=if er=2 then 3 else er
theorem JO(er:Int):(vo [((2:Int),(3:Int))] er).isSome=(er==2)/\(er=2->(vo [((2:Int),(3:Int))] er).getD 0=3):=by
 unfold vo;by_cases h:er=2;.subst h;exact⟨rfl,λ_=>rfl⟩
 .have A:((2:Int)==er)=false:=lW
  simp[List.find?,A,h]
theorem WB(w:iH):(zeroValue 36).run iG w=.ok (ErE.ev 0) w:=rfl
theorem Bg{p:Prop}(h:p:=by
 go_wp2_with fail;go_returns;exact⟨by rw[HE.out];rfl,HB.out⟩):p:=h
theorem Fj(er:Int)(w:iH)(ag:(kP lH er).wf=true):
  iU iG 149 #[lg lH er] w λe w'=>e=lF (lg lH (zO er))/\iK w.heap.size w w':=by
 have ah:=@run_makeMap iG;obtain⟨g,hg⟩:=lV w.heap.size;have Y:=oU.made ErK ErE w;have J:=(iL w.heap.size w).alloc (iI _) (.map #[] 0);rw[hg]at Y J;have Y:=iF Y;have aa:=iF J;rw[hg];obtain⟨R,Z⟩:=lV (zO er);have ae:=iF Z;rw[Z];clear J Z;go_in;go_upto_region 1 with fail;go_upto_region 2 with(go_loud (refine nZ (E:=ErK) (F:=ErE) (x:=(2:Int)) (y:=(3:Int)) rfl _ _ _ rfl Tryz.underlying229 Y.out rfl rfl (show(kP .i64 2).wf=true by decide) rfl wJ ?_);intro w2 N O)
 have HB:iW (iK g w w2):=iF (O.below aa.out (iI _) (by simp[hg]));have A:=oU.look_ok (x:=er) N Tryz.underlying229 WB ag;have Q:=(JO er).1;have U:=(JO er).2;have V:((2:Int),(3:Int))::List.filter (λp=>p.1 !=(2:Int)) ([]:List (Int×Int))=[((2:Int),(3:Int))]:=rfl;rw[V,Q]at A;have A:(j5 229 (.map (some g)) (.int .i64 er) true).run iG w2=.ok (.tuple #[.int .i64 ((vo [((2:Int),(3:Int))] er).getD 0),.bool (er==2)]) w2:=A;generalize (vo [((2:Int),(3:Int))] er).getD 0=G at*;by_cases C:er=2
 .have af:G=3:=U C
  have hb:(er==2)=true:=by simp[C]
  rw[hb,af]at A;have HE:iW (R=3):=iF (by rw[<-ae.out];exact if_pos C);clear N O V U Q C hb af;exact Bg
 .have hb:(er==2)=false:=by simp[C]
  rw[hb]at A;have HE:iW (R=er):=iF (by rw[<-ae.out];exact if_neg C);clear N O V U Q C hb;exact Bg
theorem FR:∀(l:List UInt8)(i n:Nat),(ma l i n).2.2<=3
 |[],_,_=>by simp[ma]
 |b::r,i,n=>by
  unfold ma;split;.exact iI _
  .split
   .exact jy _
   .exact FR r _ _
def FT(r:RS):Prop:=0<=r.f/\r.f<=5
theorem FT.take(h:FT r)(n:Int):FT (r.take n).1:=by
 refine⟨RS.sM r n h.1,?_⟩;unfold RS.take;split
 .split
  .show(1:Int)<=5;decide
  .split
   .show(2:Int)<=5;decide
   .show(0:Int)<=5;decide
 .exact h.2
theorem FT.fail(h:FT r){x:Int}(h0:0<=x)(A:x<=5):FT (r.fail x):=by
 refine⟨RS.vV r h0 h.1,?_⟩;unfold RS.fail;split;.exact A
 .exact h.2
theorem FT.byte(h:FT r):FT r.byte.1:=by
 refine⟨RS.Oi r h.1,?_⟩;unfold RS.byte;split
 .split
  .show(0:Int)<=5;decide
  .show(2:Int)<=5;decide
 .exact h.2
theorem FT.elem(h:FT r)(l:List UInt8)(size:Nat):FT (qg r l size).1:=by
 have A:∀k v,FT (rF k v r.byte.1).1:=λk v=>by
  have hb:=h.byte;unfold rF;split
  .split
   .exact hb.take _
   .exact hb
  .split
   .exact hb.take _
   .split
    .exact hb.take _
    .exact hb.take _
 unfold qg uQ;split;.exact A _ _
 .split
  .exact(A _ _).fail lM lM
  .split
   .exact(A _ _).take _
   .exact A _ _
theorem FT.run(size:Nat):∀(f:Nat)(r:RS)(l:List UInt8),FT r->FT (wR size f r l).1
 |0,r,l,h=>h
 |f+1,r,l,h=>by
  unfold wR;split;.exact FT.run size f _ _ (h.elem l size)
  .exact h
theorem SG(s:ByteArray)(n:Nat):∀er,BN s n=.error er->1<=er/\er<=1000:=by
 intro er h;unfold BN at h;have h0:FT (wR n (s.size+1) (RS.of s) []).1:=FT.run n _ _ _ ⟨Int.le_refl _,show(0:Int)<=5 by decide⟩;have A:FT (if(wR n (s.size+1) (RS.of s) []).2.length<n then(wR n (s.size+1) (RS.of s) []).1.fail 2 else(wR n (s.size+1) (RS.of s) []).1):=by
  split;.exact h0.fail lM lM
  .exact h0
 dsimp only at h;generalize (if(wR n (s.size+1) (RS.of s) []).2.length<n then(wR n (s.size+1) (RS.of s) []).1.fail 2 else(wR n (s.size+1) (RS.of s) []).1)=r at*;obtain⟨a,b⟩:=A;split at h
 .rename_i C
  cases h;omega
 .cases h
theorem SH(n:Int)(mt:Option (Nat×MS)):BO n mt<=5:=by
 cases mt with
 |none=>show(0:Int)<=5;decide
 |some x=>
  unfold BO MS.take;dsimp only;split;.show(1:Int)<=5;decide
  .split
   .show(5:Int)<=5;decide
   .show(0:Int)<=5;decide
theorem SI(l:List UInt8):(sj l).2.2<=5:=by
 have:=FR l 0 0;unfold sj;split
 .split
  .exact iI _
  .omega
 .show(ma l 0 0).2.2<=5;omega
theorem DJ(s:ByteArray)(most:Int)(mt:Option (Nat×MS)):∀er,(qI s most mt).1=.error er->1<=er/\er<=1000:=by
 intro er h;have A:=SI s.data.toList;unfold qI at h;generalize sj s.data.toList=t at*;obtain⟨n,k,e⟩:=t;dsimp only at h A;split at h;.cases h;omega
 .split at h
  .cases h;omega
  .have C:=zK n mt
   have E:=SH n mt;split at h;.cases h;omega
   .exact SG _ _ _ h
theorem Mj(most:Int)(s:ByteArray):(mZ most s).body.size<=s.size:=by
 unfold mZ;split
 .split
  .exact jy _
  .dsimp only
   split;.simp only[ja];omega
   .exact jy _
 .exact jy _
def rM(most A:Int)(s:ByteArray)(mt:Option (Nat×MS)):Except Nat (uN×Nat)×Option (Nat×MS):=
 if(mZ most s).e≠0 then(.error (mZ most s).e,mt)else
 match qI (mZ most s).body A mt with
 |(.error er,m2)=>(.error (zO (er:Nat)).toNat,m2)
 |(.ok l,m2)=>(.ok (⟨(mZ most s).id,⟨#[]⟩,⟨l.toArray⟩⟩,(mZ most s).n),m2)
def xx(R:Except Nat (uN×Nat)×Option (Nat×MS))(mt:Option (Nat×MS))(w:iH)(e:Ending)(w':iH):Prop:=
 w.grownBy w' (mr mt)/\nD w' R.2/\match R.1 with
 | .error er=>e=lF (lD #[lC #[lg lI 0,ll ⟨#[]⟩,ll ⟨#[]⟩],lg lH 0,lg lH (er:Nat)])
 | .ok y=>e=lF (lD #[lC #[lg lI y.1.id,ll y.1.name,ll y.1.body],lg lH (y.2:Nat),lg lH 0])
theorem xy{mt:Option (Nat×MS)}{w:iH}(h:nD w mt):∀x,mr mt=some x->x<w.heap.size:=λx A=>by
 cases mt with
 |none=>cases A
 |some y=>cases A;exact lN.lt h.1
theorem zP(s:ByteArray)(most:Int)(mt:Option (Nat×MS)):mr (qI s most mt).2=mr mt:=by
 unfold qI;split;split;.rfl
 .split
  .rfl
  .split
   .exact Dv _ _
   .exact Dv _ _
structure SK(g g2:Nat)(w:iH)(mt EW:Option (Nat×MS))(id:Nat)(b:ByteArray)(W:iH):Prop where
 res:lN W g #[lg lI 0,ll ⟨#[]⟩,ll ⟨#[]⟩] pg
 fr:lN W g2 #[lg lI id,ll ⟨#[]⟩,ll b] pg
 mm:nD W EW
 gr:w.grownBy W (mr mt)
 lt:g<g2
section
variable {g g2:Nat}{w W W':iH}{mt EW:Option (Nat×MS)}{id:Nat}{b:ByteArray}
theorem SK.below(h:SK g g2 w mt EW id b W)(hb:iK W.heap.size W W'):SK g g2 w mt EW id b W':=
 ⟨Below.blk hb h.res h.res.lt,Below.blk hb h.fr h.fr.lt,h.mm.grown hb,nL h.gr (mV hb),h.lt⟩
theorem mY{row:Option Nat}{c:Nat}{cs:Array iJ}{t:jg}(h:lN W c cs t)(hg:W.grownBy W' row)(A:∀x,row=some x->x≠c):lN W' c cs t:=by
 unfold lN;rw[hg.block c h.lt (λe=>A c e.symm rfl)];exact h
theorem SK.grow{m2:Option (Nat×MS)}(h:SK g g2 w mt EW id b W)(hg:W.grownBy W' (mr mt))(C:nD W' m2)(hlt:∀x,mr mt=some x->x<g):SK g g2 w mt m2 id b W':=
 ⟨mY h.res hg (λx A e=>by have:=hlt x A;omega),mY h.fr hg (λx A e=>by have:=hlt x A;have:=h.lt;omega),C,nL h.gr hg,h.lt⟩
theorem pW{row:Option Nat}{A:iH}(h:w.grownBy A row){p:kr}(hp:w.heap.size<=p.block)(v:iJ):w.grownBy (A.setCell p v) row:=
 ⟨h.os,h.tape,h.output,by simpa [jf]using h.size,λi hi C=>(iX A p v i lK).trans (h.block i hi C)⟩
theorem vv{A:iH}{m:Option (Nat×MS)}(h:nD A m){p:kr}(hp:∀x,mr m=some x->x≠p.block)(v:iJ):nD (A.setCell p v) m:=by
 cases m with
 |none=>trivial
 |some y=>exact⟨lN.setOther h.1 (hp _ rfl) v,h.2⟩
theorem Mk{b' c:iJ}(h:SK g g2 w mt EW id b W)(hlt:∀x,mr EW=some x->x<g)(hg:w.heap.size=g):w.grownBy (vF W g a b' c) (mr mt)/\nD (vF W g a b' c) EW:=
 have q:∀i,∀x,mr EW=some x->x≠(⟨g,i,none⟩:kr).block:=λi x A e=>by have:=hlt x A;simp at e;omega
 have p:∀i,w.heap.size<=(⟨g,i,none⟩:kr).block:=λi=>kX hg
 ⟨pW (p:=⟨g,2,none⟩) (pW (p:=⟨g,1,none⟩) (pW (p:=⟨g,0,none⟩) h.gr (p 0) _) (p 1) _) (p 2) _,vv (vv (vv h.mm (q 0) _) (q 1) _) (q 2) _⟩
theorem SK.setBody(h:SK g g2 w mt EW id b W)(hlt:∀x,mr EW=some x->x<g)(hg:w.heap.size=g)(A:ByteArray):SK g g2 w mt EW id A (W.setCell ⟨g2,2,none⟩ (ll A)):=
 ⟨h.res.setOther (a:=⟨g2,2,none⟩) (by have:=h.lt;simp;omega) _,h.fr.set 2 _,vv h.mm (λx C e=>by have:=hlt x C;have:=h.lt;simp at e;omega) _,pW h.gr (by have:=h.lt;simp;omega) _,h.lt⟩
end
theorem JP(most N:Int)(s:ByteArray)(mt:Option (Nat×MS))(w:iH)(hs:s.size<=jb)(aU:-9223372036854775808<=most/\most<=9223372036854775807)(aN:N<=65536)(ah:nD w mt):
  iU iG 111 #[lg lH most,lg lH N,FJ mt,ll s] w (xx (rM most N s mt) mt w):=by
 obtain⟨g,hg⟩:=lV w.heap.size;have ai:=(iL w.heap.size w).alloc (iI _) (lG #[lg lI 0,ll ⟨#[]⟩,ll ⟨#[]⟩] pg);have aF:=iF (lN.new w #[lg lI 0,ll ⟨#[]⟩,ll ⟨#[]⟩] pg);have aG:=iF ai;have aj:(w.alloc (lG #[lg lI 0,ll ⟨#[]⟩,ll ⟨#[]⟩] pg)).heap.size=g+1:=by simp[hg]
 have ak:=iF (Dw most s (w.alloc (lG #[lg lI 0,ll ⟨#[]⟩,ll ⟨#[]⟩] pg)) aU hs);have aH:=iF (nD.grown ah ai);have C:=iF (hg▸xy ah);obtain⟨R,aa⟩:=lV (rM most N s mt);rw[aa];unfold rM at aa;have au:(mZ most s).body.size<=jb:=je (Mj most s) hs;obtain⟨id,bd,n,er,aI⟩:∃id bd n er,mZ most s=⟨id,bd,n,er⟩:=⟨_,_,_,_,rfl⟩;rw[aI]at ak aa au;dsimp only at aa au;have O:=iF aa;have ak:iW (iU iG 106 #[lg lH most,ll s] (w.alloc (lG #[lg lI 0,ll ⟨#[]⟩,ll ⟨#[]⟩] pg)) λe w'=>e=lF (lD #[lC #[lg lI id,ll ⟨#[]⟩,ll bd],lg lH (n:Nat),lg lH (er:Nat)])/\iK (w.alloc (lG #[lg lI 0,ll ⟨#[]⟩,ll ⟨#[]⟩] pg)).heap.size (w.alloc (lG #[lg lI 0,ll ⟨#[]⟩,ll ⟨#[]⟩] pg)) w'):=ak;have aJ:iW (∀w2 W,iK (g+1) (w.alloc (lG #[lg lI 0,ll ⟨#[]⟩,ll ⟨#[]⟩] pg)) w2->w2.alloc (lG #[lg lI id,ll ⟨#[]⟩,ll bd] pg)=W->SK g w2.heap.size w mt mt id bd W):=iF λw2 W aL aV=>by
  subst aV;have aW:=aL.alloc (by rw[<-aj];exact aL.size) (lG #[lg lI id,ll ⟨#[]⟩,ll bd] pg);have av:iK (w.alloc (lG #[lg lI 0,ll ⟨#[]⟩,ll ⟨#[]⟩] pg)).heap.size (w.alloc (lG #[lg lI 0,ll ⟨#[]⟩,ll ⟨#[]⟩] pg)) (w2.alloc (lG #[lg lI id,ll ⟨#[]⟩,ll bd] pg)):=by rw[aj];exact aW
  exact⟨Below.blk av (hg▸aF.out) lK,lN.new _ _ _,aH.out.grown av,nL (mV aG.out) (mV av),by have:=aL.size;omega⟩
 clear ai ah aa aI aF aG aH;go_in;go_upto_region 1 with fail;generalize w.alloc _=w1 at*;go_wp2_with fail;refine ak.out.mono ?_;rintro e w2 ⟨rfl,ax⟩;rw[aj]at ax;go_upto_region 2 with fail;have Y:=iF (aJ.out w2 _ ax rfl);generalize w2.alloc _=w3 at*;generalize w2.heap.size=g2 at*;clear aJ ax ak;by_cases he:er=0;case neg=>
  have bg:((er:Int) !=0)=true:=by simp[he]
  have ae:iW (R=(.error er,mt)):=iF (by rw[<-O.out,if_pos he]);clear he O;obtain⟨r0,r1,r2,z0,aO,aP⟩:=Y.out.res.b3;have ay:=iF (oz (a:=lg lI 0) (b:=ll ⟨#[]⟩) (c:=ll ⟨#[]⟩) Y.out.res);have A:=iF (Mk (a:=lg lI 0) (b':=ll ⟨#[]⟩) (c:=ll ⟨#[]⟩) Y.out C.out hg);go_wp2_with fail;rw[oQ];obtain⟨az,aA,aB⟩:=ay.out.a3;refine iV (v:=lD #[lC #[lg lI 0,ll ⟨#[]⟩,ll ⟨#[]⟩],lg lH 0,lg lH er]) (by simp[jr,Tryz.results111,go_sem,az,aA,aB]) rfl ?_;rw[ae.out];exact⟨A.out.1,A.out.2,rfl⟩
 subst he
 have O:iW (R=match qI bd N mt with
  |(.error er,m2)=>(.error (zO (er:Nat)).toNat,m2)
  |(.ok l,m2)=>(.ok (⟨id,⟨#[]⟩,⟨l.toArray⟩⟩,n),m2)):=iF (by rw[<-O.out];rfl)
 have af:=iF (Jt bd N mt w3 au aN Y.out.mm);have hrow:=zP bd N mt;have Q:=DJ bd N mt;obtain⟨aM,m2,aQ⟩:∃aM m2,qI bd N mt=(aM,m2):=⟨_,_,rfl⟩;rw[aQ]at af O hrow Q;have Z:iW (∀x,mr m2=some x->x<g):=iF λx aX=>C.out x (hrow▸aX)
 dsimp only at hrow Q;have aD:=Y.out.fr.c2;unfold Sg at af;dsimp only at af;clear aQ hrow;cases aM with
 |error ag=>
  have bu:=Q ag rfl;have aY:=iF (λW=>Fj (ag:Nat) W (by simp[Lit.wf,IntKind.min,IntKind.max,IntKind.signed,IntKind.bits];omega));have bq:((ag:Int) !=0)=true:=lW;have aR:0<=zO (ag:Nat):=by unfold zO;split<;>omega
  have ae:iW (R=(.error (zO (ag:Nat)).toNat,m2)):=O;clear O;generalize zO (ag:Nat)=aZ at*;clear Q;go_wp2_with fail;refine af.out.mono ?_;rintro e w4 ⟨U,V,rfl⟩;have J:=iF (Y.out.grow U V C.out);clear U V;clear C;have C:=Z;go_wp2_with fail;refine(aY.out _).mono ?_;rintro e w5 ⟨rfl,aK⟩;have E:=iF (J.out.below aK);clear aK;obtain⟨r0,r1,r2,z0,aO,aP⟩:=E.out.res.b3;have ay:=iF (oz (a:=lg lI 0) (b:=ll ⟨#[]⟩) (c:=ll ⟨#[]⟩) E.out.res);have A:=iF (Mk (a:=lg lI 0) (b':=ll ⟨#[]⟩) (c:=ll ⟨#[]⟩) E.out C.out hg);go_wp2_with fail;rw[oQ];obtain⟨az,aA,aB⟩:=ay.out.a3;refine iV (v:=lD #[lC #[lg lI 0,ll ⟨#[]⟩,ll ⟨#[]⟩],lg lH 0,lg lH aZ]) (by simp[jr,Tryz.results111,go_sem,az,aA,aB]) rfl ?_;rw[ae.out];exact⟨A.out.1,A.out.2,by dsimp only;rw[Int.toNat_of_nonneg aR]⟩
 |ok l=>
  have ae:iW (R=(.ok (⟨id,⟨#[]⟩,⟨l.toArray⟩⟩,n),m2)):=O;obtain⟨bl,aC⟩:∃bl:ByteArray,(⟨l.toArray⟩:ByteArray)=bl:=⟨_,rfl⟩;rw[aC]at ae;simp only[aC]at af;clear Q aC;go_wp2_with fail;refine af.out.mono ?_;rintro e w4 ⟨U,V,rfl⟩;have J:=iF (Y.out.grow U V C.out);clear U V aD;have aS:=J.out.fr.c0;have aT:=J.out.fr.c1;have aD:=J.out.fr.c2;have f2:=J.out.fr.free 2;have E:=iF (J.out.setBody Z.out hg bl);clear C;have C:=Z;go_upto_region 8 with fail;generalize w4.setCell ⟨g2,2,none⟩ (ll bl)=w5 at*;clear aS aT aD f2;obtain⟨aS,aT,aD⟩:=E.out.fr.a3;obtain⟨r0,r1,r2,z0,aO,aP⟩:=E.out.res.b3;have ay:=iF (oz (a:=lg lI id) (b:=ll ⟨#[]⟩) (c:=ll bl) E.out.res);have A:=iF (Mk (a:=lg lI id) (b':=ll ⟨#[]⟩) (c:=ll bl) E.out C.out hg);go_wp2_with fail;rw[oQ];obtain⟨az,aA,aB⟩:=ay.out.a3;refine iV (v:=lD #[lC #[lg lI id,ll ⟨#[]⟩,ll bl],lg lH n,lg lH 0]) (by simp[jr,Tryz.results111,go_sem,az,aA,aB]) rfl ?_;rw[ae.out];exact⟨A.out.1,A.out.2,rfl⟩
structure mU where
 fmt:Int
 mag:Int
 nK:Int
 oF:Int
 dep:Int
 mX:Int
def mU.cs(c:mU):Array iJ:=#[lg lH c.fmt,lg lJ c.mag,lg lH c.nK,lg lH c.oF,lg lH c.dep,lg lH c.mX]
def mU.v(c:mU):iJ:=lC c.cs
def mU.wf(c:mU):Prop:=(kP lH c.fmt).wf=true/\(kP lJ c.mag).wf=true/\(kP lH c.nK).wf=true/\(kP lH c.oF).wf=true/\(kP lH c.dep).wf=true/\(kP lH c.mX).wf=true
def within(n most:Int):Bool:=decide (1<=n)&&decide (n<=most)
def mK(c:mU):Bool:=within c.fmt 3&&within c.nK 65536&&within c.oF 65536&&within c.dep 16&&within c.mX 1024
theorem oV{c:mU}(h:mK c=true):(1<=c.fmt/\c.fmt<=3)/\(1<=c.nK/\c.nK<=65536)/\(1<=c.oF/\c.oF<=65536)/\(1<=c.dep/\c.dep<=16)/\(1<=c.mX/\c.mX<=1024):=by
 simp only[mK,within,iY,decide_eq_true_eq]at h;omega
abbrev rC:jg:=24
theorem sN{w:iH}(c:mU){t:jg}:∀W,w.alloc (lG #[lg lH c.fmt,lg lJ c.mag,lg lH c.nK,lg lH c.oF,lg lH c.dep,lg lH c.mX] t)=W->
  iK w.heap.size w W/\W.cell? ⟨w.heap.size,0,none⟩=some (lg lH c.fmt)/\W.cell? ⟨w.heap.size,1,none⟩=some (lg lJ c.mag)/\W.cell? ⟨w.heap.size,2,none⟩=some (lg lH c.nK)/\
   W.cell? ⟨w.heap.size,3,none⟩=some (lg lH c.oF)/\W.cell? ⟨w.heap.size,4,none⟩=some (lg lH c.dep)/\W.cell? ⟨w.heap.size,5,none⟩=some (lg lH c.mX):=by
 rintro W rfl;have hb:=lN.new w #[lg lH c.fmt,lg lJ c.mag,lg lH c.nK,lg lH c.oF,lg lH c.dep,lg lH c.mX] t;exact⟨(iL _ w).alloc (iI _) _,hb.cell 0,hb.cell 1,hb.cell 2,hb.cell 3,hb.cell 4,hb.cell 5⟩
theorem JQ(n m:Int)(w:iH):iU iG 95 #[lg lH n,lg lH m] w λe w'=>e=lF (lu (within n m))/\w'=w:=by
 by_cases A:1<=n
 .by_cases C:n<=m
  .have HR:iW (within n m=true):=iF (by unfold within;rw[decide_eq_true A,decide_eq_true C];rfl)
   exact Dx
  .have HR:iW (within n m=false):=iF (by unfold within;rw[decide_eq_true A,decide_eq_false C];rfl)
   exact Dx
 .have HR:iW (within n m=false):=iF (by unfold within;rw[decide_eq_false A];rfl)
  exact Dx
theorem zl(c:mU)(w:iH):iU iG 67 #[c.v] w λe w'=>e=lF (lu (mK c))/\iK w.heap.size w w':=by
 have Q:=iF (sN (w:=w) c (t:=rC));have C:=iF JQ;obtain⟨g,hg⟩:=lV w.heap.size;have J:iW (mK c=(within c.fmt 3&&within c.nK 65536&&within c.oF 65536&&within c.dep 16&&within c.mX 1024)):=iF rfl;rw[hg]at Q⊢;obtain⟨f,m,fr,Y,Z,it⟩:=c;unfold mU.v mU.cs;dsimp only at Q J⊢;go_in;go_upto_region 1 with fail;generalize w.alloc _=w1 at*;obtain⟨U,c0,c1,c2,c3,c4,c5⟩:=Q.out _ rfl;have N:=iF U;clear Q U c1;go_wp2_with fail;refine(C.out _ _ _).mono ?_;rintro e w2 ⟨rfl,rfl⟩;cases A:within f 3 with
 |false=>
  go_wp2_with fail;go_returns;exact⟨by rw[J.out];simp[A],N.out⟩
 |true=>
  go_wp2_with fail;refine(C.out _ _ _).mono ?_;rintro e w2 ⟨rfl,rfl⟩;cases E:within fr 65536 with
  |false=>
   go_wp2_with fail;go_returns;exact⟨by rw[J.out];simp[A,E],N.out⟩
  |true=>
   go_wp2_with fail;refine(C.out _ _ _).mono ?_;rintro e w2 ⟨rfl,rfl⟩;cases O:within Y 65536 with
   |false=>
    go_wp2_with fail;go_returns;exact⟨by rw[J.out];simp[A,E,O],N.out⟩
   |true=>
    go_wp2_with fail;refine(C.out _ _ _).mono ?_;rintro e w2 ⟨rfl,rfl⟩;cases V:within Z 16 with
    |false=>
     go_wp2_with fail;go_returns;exact⟨by rw[J.out];simp[A,E,O,V],N.out⟩
    |true=>
     go_wp2_with fail;refine(C.out _ _ _).mono ?_;rintro e w2 ⟨rfl,rfl⟩;go_wp2_with fail;go_returns;exact⟨by rw[J.out];simp[A,E,O,V],N.out⟩
def xz:Array iJ:=#[.nilFunc,.nilFunc,.nilFunc,.nilFunc,.func (.func 97) #[] #[],.func (.func 98) #[] #[],.func (.func 100) #[] #[],.func (.func 102) #[] #[],.func (.func 96) #[] #[],.func (.func 103) #[] #[],.func (.func 105) #[] #[],.func (.func 107) #[] #[],.func (.func 96) #[] #[],.func (.func 108) #[] #[],.func (.func 110) #[] #[],.func (.func 107) #[] #[]]
theorem zQ(w:iH):iU iG 68 #[] w λe w'=>e=lF (lC xz)/\iK w.heap.size w w':=by
 have A:=iF (lN.new w xz 142);have J:=iF ((iL w.heap.size w).alloc (iI _) (lG xz 142));unfold xz at*;go_in;go_wp2_with fail;obtain⟨N,O,Q,U,d4,d5,d6,V,d8,d9⟩:=A.out.a10;have d10:=A.out.cell 10;have d11:=A.out.cell 11;have C:=A.out.cell 12;have d13:=A.out.cell 13;have d14:=A.out.cell 14;have E:=A.out.cell 15;simp only[iP,iO,iM]at d10 d11 C d13 d14 E;refine iV (v:=lC #[.nilFunc,.nilFunc,.nilFunc,.nilFunc,.func (.func 97) #[] #[],.func (.func 98) #[] #[],.func (.func 100) #[] #[],.func (.func 102) #[] #[],.func (.func 96) #[] #[],.func (.func 103) #[] #[],.func (.func 105) #[] #[],.func (.func 107) #[] #[],.func (.func 96) #[] #[],.func (.func 108) #[] #[],.func (.func 110) #[] #[],.func (.func 107) #[] #[]]) (by simp[jr,Tryz.results68,go_sem,N,O,Q,U,d4,d5,d6,V,d8,d9,d10,d11,C,d13,d14,E]) rfl ⟨rfl,J.out⟩
def uB(f:PF):Except Nat (uN×Nat):=if f.e≠0 then .error f.e else .ok (⟨f.id,⟨#[]⟩,f.body⟩,f.n)
theorem Ml{most:Int}{s:ByteArray}(h:(mZ most s).e≠0):mZ most s=PF.bad (mZ most s).e:=by
 unfold mZ at*;split
 .rename_i h0
  rw[if_pos h0]at h;split;.rfl
  .rename_i A
   rw[if_neg A]at h;dsimp only at*;split
   .rename_i C
    rw[if_pos C]at h;exact absurd rfl h
   .rfl
 .rfl
structure VT(g:Nat)(w:iH)(mt EW:Option (Nat×MS))(W:iH):Prop where
 res:lN W (g+1) #[lg lI 0,ll ⟨#[]⟩,ll ⟨#[]⟩] pg
 mm:nD W EW
 gr:w.grownBy W (mr mt)
theorem zm{g:Nat}{w W:iH}{mt EW:Option (Nat×MS)}{b c:iJ}(h:VT g w mt EW W)(hlt:∀x,mr EW=some x->x<g)(hg:w.heap.size=g):w.grownBy (vF W (g+1) a b c) (mr mt)/\nD (vF W (g+1) a b c) EW:=
 have q:∀i,∀x,mr EW=some x->x≠(⟨g+1,i,none⟩:kr).block:=λi x A e=>by have:=hlt x A;simp at e;omega
 have p:∀i,w.heap.size<=(⟨g+1,i,none⟩:kr).block:=λi=>by rw[hg];exact jF _
 ⟨pW (p:=⟨g+1,2,none⟩) (pW (p:=⟨g+1,1,none⟩) (pW (p:=⟨g+1,0,none⟩) h.gr (p 0) _) (p 1) _) (p 2) _,vv (vv (vv h.mm (q 0) _) (q 1) _) (q 2) _⟩
theorem yQ{R:Except Nat (uN×Nat)}{mt:Option (Nat×MS)}{w w':iH}(A:nD w mt)(h:uz R w e w'):xx (R,mt) mt w e w':=
 ⟨mV h.1,A.grown h.1,h.2⟩
theorem BX(most A:Int)(s:ByteArray)(mt:Option (Nat×MS)):mr (rM most A s mt).2=mr mt:=by
 have:=zP (mZ most s).body A mt;unfold rM;split;.rfl
 .split
  .rename_i h;rw[h]at this;exact this
  .rename_i h;rw[h]at this;exact this
theorem SL(c:mU)(s:ByteArray)(mt:Option (Nat×MS))(w:iH)(hs:s.size<=jb)(hc:mK c=true)(aj:c.wf)(Z:nD w mt):
  iU iG 100 #[c.v,FJ mt,ll s] w (xx (rW s c.mag c.nK,mt) mt w):=by
 obtain⟨⟨aG,aH⟩,⟨aI,ak⟩,⟨aJ,aK⟩,_,_⟩:=oV hc;have ay:∃R,(rW s c.mag c.nK,mt)=R:=⟨_,rfl⟩;have hrow:mr (rW s c.mag c.nK,mt).2=mr mt:=rfl;have A:iW (∀x,mr ((rW s c.mag c.nK,mt)).2=some x->x<w.heap.size):=iF λx aa=>xy Z x (hrow▸aa)
 have U:iW (mr ((rW s c.mag c.nK,mt)).2=mr mt):=iF hrow;have C:∀W,nD W mt->iU iG 101 #[lg lJ c.mag,lg lH c.nK,ll s] W (xx (rW s c.mag c.nK,mt) mt W):=λ(W:iH) (aR:nD W mt)=>(Qt c.mag c.nK s W aj.2.1 ak hs).mono λe w' h=>yQ aR h
 obtain⟨R,aL⟩:=ay;rw[aL]at C A U⊢;have C:=iF C;obtain⟨f,m,fr,Q,Y,it⟩:=c;unfold mU.v mU.cs;dsimp only at*;have az:=iF (sN (w:=w) ⟨f,m,fr,Q,Y,it⟩ (t:=rC));obtain⟨g,hg⟩:=lV w.heap.size;have au:=iF Z;dsimp only at az;rw[hg]at az A;clear aL hc Z aj hs aG aH aI ak aJ aK hrow
 have av:iW (∀aA W,w.alloc (lG #[lg lH f,lg lJ m,lg lH fr,lg lH Q,lg lH Y,lg lH it] rC)=aA->aA.alloc (lG #[lg lI 0,ll ⟨#[]⟩,ll ⟨#[]⟩] pg)=W->VT g w mt mt W/\
   W.cell? ⟨g,1,none⟩=some (lg lJ m)/\W.cell? ⟨g,2,none⟩=some (lg lH fr)/\W.cell? ⟨g,3,none⟩=some (lg lH Q)):=iF λaA W aS aT=>by
  subst aS aT;have aM:=lN.new w #[lg lH f,lg lJ m,lg lH fr,lg lH Q,lg lH Y,lg lH it] rC;have aN:=(iL w.heap.size w).alloc (iI _) (lG #[lg lH f,lg lJ m,lg lH fr,lg lH Q,lg lH Y,lg lH it] rC);have ae:=aN.alloc lU (lG #[lg lI 0,ll ⟨#[]⟩,ll ⟨#[]⟩] pg);have aU:(w.alloc (lG #[lg lH f,lg lJ m,lg lH fr,lg lH Q,lg lH Y,lg lH it] rC)).heap.size=g+1:=by simp[hg]
  have ax:=lN.new (w.alloc (lG #[lg lH f,lg lJ m,lg lH fr,lg lH Q,lg lH Y,lg lH it] rC)) #[lg lI 0,ll ⟨#[]⟩,ll ⟨#[]⟩] pg;rw[aU]at ax;have V:=aM.alloc (lG #[lg lI 0,ll ⟨#[]⟩,ll ⟨#[]⟩] pg);rw[hg]at V;exact⟨⟨ax,au.out.grown ae,mV ae⟩,V.cell 1,V.cell 2,V.cell 3⟩
 go_in;go_upto_region 1 with fail;obtain⟨hI,aO,aP,aQ⟩:=av.out _ _ rfl rfl;generalize (w.alloc _).alloc _=w2 at*;have af:=iF hI;clear hI av az au;go_wp2_with fail;refine(C.out _ af.out.mm).mono ?_;obtain⟨aV,m2⟩:=R;dsimp only at A U;cases aV with
 |error er=>
  rintro e w3 ⟨E,J,rfl⟩;dsimp only at J;have N:iW (VT g w mt m2 w3):=iF ⟨mY af.out.res E (λx aa e=>by have:=A.out x (U.out▸aa);omega),J,nL af.out.gr E⟩;clear E J aO aP aQ;obtain⟨r0,r1,r2,z0,aW,aX⟩:=N.out.res.b3;have aB:=iF (oz (a:=lg lI 0) (b:=ll ⟨#[]⟩) (c:=ll ⟨#[]⟩) N.out.res);have O:=iF (zm (a:=lg lI 0) (b:=ll ⟨#[]⟩) (c:=ll ⟨#[]⟩) N.out A.out hg);go_wp2_with fail;rw[oQ];obtain⟨aC,aD,aF⟩:=aB.out.a3;refine iV (v:=lD #[lC #[lg lI 0,ll ⟨#[]⟩,ll ⟨#[]⟩],lg lH 0,lg lH (er:Nat)]) (by simp[jr,Tryz.results100,go_sem,aC,aD,aF]) rfl ⟨O.out.1,O.out.2,rfl⟩
 |ok y=>
  obtain⟨⟨ag,ah,ai⟩,fn⟩:=y;rintro e w3 ⟨E,J,rfl⟩;dsimp only at J⊢;have N:iW (VT g w mt m2 w3):=iF ⟨mY af.out.res E (λx aa e=>by have:=A.out x (U.out▸aa);omega),J,nL af.out.gr E⟩;clear E J aO aP aQ;obtain⟨r0,r1,r2,z0,aW,aX⟩:=N.out.res.b3;have aB:=iF (oz (a:=lg lI ag) (b:=ll ah) (c:=ll ai) N.out.res);have O:=iF (zm (a:=lg lI ag) (b:=ll ah) (c:=ll ai) N.out A.out hg);go_wp2_with fail;rw[oQ];obtain⟨aC,aD,aF⟩:=aB.out.a3;refine iV (v:=lD #[lC #[lg lI ag,ll ah,ll ai],lg lH (fn:Nat),lg lH 0]) (by simp[jr,Tryz.results100,go_sem,aC,aD,aF]) rfl ⟨O.out.1,O.out.2,rfl⟩
theorem SN{most:Int}{s:ByteArray}(h:e=lF (mZ most s).v):match uB (mZ most s)with
 | .error er=>e=lF (lD #[lC #[lg lI 0,ll ⟨#[]⟩,ll ⟨#[]⟩],lg lH 0,lg lH (er:Nat)])
 | .ok y=>e=lF (lD #[lC #[lg lI y.1.id,ll y.1.name,ll y.1.body],lg lH (y.2:Nat),lg lH 0]):=by
 by_cases h0:(mZ most s).e=0
 .have:uB (mZ most s)=.ok (⟨(mZ most s).id,⟨#[]⟩,(mZ most s).body⟩,(mZ most s).n):=if_neg (by simpa using h0)
  rw[this];dsimp only;rw[h];unfold PF.v A7;rw[h0];rfl
 .have C:uB (mZ most s)=.error (mZ most s).e:=if_pos h0
  rw[C];dsimp only;rw[h];have A:=Ml h0;generalize mZ most s=q at*;obtain⟨i,b,n,E⟩:=q;unfold PF.bad at A;cases A;rfl
theorem Qv(c:mU)(s:ByteArray)(mt:Option (Nat×MS))(w:iH)(hs:s.size<=jb)(hc:mK c=true)(aD:c.wf)(Z:nD w mt):
  iU iG 105 #[c.v,FJ mt,ll s] w (xx (uB (mZ c.nK s),mt) mt w):=by
 obtain⟨⟨aF,aG⟩,⟨aH,aI⟩,⟨aJ,aK⟩,_,_⟩:=oV hc;have av:∃R,(uB (mZ c.nK s),mt)=R:=⟨_,rfl⟩;have hrow:mr (uB (mZ c.nK s),mt).2=mr mt:=rfl;have A:iW (∀x,mr ((uB (mZ c.nK s),mt)).2=some x->x<w.heap.size):=iF λx aa=>xy Z x (hrow▸aa)
 have U:iW (mr ((uB (mZ c.nK s),mt)).2=mr mt):=iF hrow;have C:∀W,nD W mt->iU iG 106 #[lg lH c.nK,ll s] W (xx (uB (mZ c.nK s),mt) mt W):=λ(W:iH) (aR:nD W mt)=>(Dw c.nK s W lK hs).mono λe w' h=>yQ (R:=uB (mZ c.nK s)) aR ⟨h.2,SN h.1⟩
 obtain⟨R,aL⟩:=av;rw[aL]at C A U⊢;have C:=iF C;obtain⟨f,m,fr,Q,Y,it⟩:=c;unfold mU.v mU.cs;dsimp only at*;have ax:=iF (sN (w:=w) ⟨f,m,fr,Q,Y,it⟩ (t:=rC));obtain⟨g,hg⟩:=lV w.heap.size;have aj:=iF Z;dsimp only at ax;rw[hg]at ax A;clear aL hc Z aD hs aF aG aH aI aJ aK hrow
 have ak:iW (∀ay W,w.alloc (lG #[lg lH f,lg lJ m,lg lH fr,lg lH Q,lg lH Y,lg lH it] rC)=ay->ay.alloc (lG #[lg lI 0,ll ⟨#[]⟩,ll ⟨#[]⟩] pg)=W->VT g w mt mt W/\
   W.cell? ⟨g,1,none⟩=some (lg lJ m)/\W.cell? ⟨g,2,none⟩=some (lg lH fr)/\W.cell? ⟨g,3,none⟩=some (lg lH Q)):=iF λay W aS aT=>by
  subst aS aT;have aM:=lN.new w #[lg lH f,lg lJ m,lg lH fr,lg lH Q,lg lH Y,lg lH it] rC;have aN:=(iL w.heap.size w).alloc (iI _) (lG #[lg lH f,lg lJ m,lg lH fr,lg lH Q,lg lH Y,lg lH it] rC);have ae:=aN.alloc lU (lG #[lg lI 0,ll ⟨#[]⟩,ll ⟨#[]⟩] pg);have aU:(w.alloc (lG #[lg lH f,lg lJ m,lg lH fr,lg lH Q,lg lH Y,lg lH it] rC)).heap.size=g+1:=by simp[hg]
  have au:=lN.new (w.alloc (lG #[lg lH f,lg lJ m,lg lH fr,lg lH Q,lg lH Y,lg lH it] rC)) #[lg lI 0,ll ⟨#[]⟩,ll ⟨#[]⟩] pg;rw[aU]at au;have V:=aM.alloc (lG #[lg lI 0,ll ⟨#[]⟩,ll ⟨#[]⟩] pg);rw[hg]at V;exact⟨⟨au,aj.out.grown ae,mV ae⟩,V.cell 1,V.cell 2,V.cell 3⟩
 go_in;go_upto_region 1 with fail;obtain⟨hI,aO,aP,aQ⟩:=ak.out _ _ rfl rfl;generalize (w.alloc _).alloc _=w2 at*;have af:=iF hI;clear hI ak ax aj;go_wp2_with fail;refine(C.out _ af.out.mm).mono ?_;obtain⟨aV,m2⟩:=R;dsimp only at A U;cases aV with
 |error er=>
  rintro e w3 ⟨E,J,rfl⟩;dsimp only at J;have N:iW (VT g w mt m2 w3):=iF ⟨mY af.out.res E (λx aa e=>by have:=A.out x (U.out▸aa);omega),J,nL af.out.gr E⟩;clear E J aO aP aQ;obtain⟨r0,r1,r2,z0,aW,aX⟩:=N.out.res.b3;have az:=iF (oz (a:=lg lI 0) (b:=ll ⟨#[]⟩) (c:=ll ⟨#[]⟩) N.out.res);have O:=iF (zm (a:=lg lI 0) (b:=ll ⟨#[]⟩) (c:=ll ⟨#[]⟩) N.out A.out hg);go_wp2_with fail;rw[oQ];obtain⟨aA,aB,aC⟩:=az.out.a3;refine iV (v:=lD #[lC #[lg lI 0,ll ⟨#[]⟩,ll ⟨#[]⟩],lg lH 0,lg lH (er:Nat)]) (by simp[jr,Tryz.results105,go_sem,aA,aB,aC]) rfl ⟨O.out.1,O.out.2,rfl⟩
 |ok y=>
  obtain⟨⟨ag,ah,ai⟩,fn⟩:=y;rintro e w3 ⟨E,J,rfl⟩;dsimp only at J⊢;have N:iW (VT g w mt m2 w3):=iF ⟨mY af.out.res E (λx aa e=>by have:=A.out x (U.out▸aa);omega),J,nL af.out.gr E⟩;clear E J aO aP aQ;obtain⟨r0,r1,r2,z0,aW,aX⟩:=N.out.res.b3;have az:=iF (oz (a:=lg lI ag) (b:=ll ah) (c:=ll ai) N.out.res);have O:=iF (zm (a:=lg lI ag) (b:=ll ah) (c:=ll ai) N.out A.out hg);go_wp2_with fail;rw[oQ];obtain⟨aA,aB,aC⟩:=az.out.a3;refine iV (v:=lD #[lC #[lg lI ag,ll ah,ll ai],lg lH (fn:Nat),lg lH 0]) (by simp[jr,Tryz.results105,go_sem,aA,aB,aC]) rfl ⟨O.out.1,O.out.2,rfl⟩
theorem DK(c:mU)(s:ByteArray)(mt:Option (Nat×MS))(w:iH)(hs:s.size<=jb)(hc:mK c=true)(aF:c.wf)(Z:nD w mt):
  iU iG 110 #[c.v,FJ mt,ll s] w (xx (rM c.nK c.oF s mt) mt w):=by
 obtain⟨⟨aG,aH⟩,⟨aI,aJ⟩,⟨aK,aj⟩,_,_⟩:=oV hc;have ax:∃R,(rM c.nK c.oF s mt)=R:=⟨_,rfl⟩;have hrow:mr (rM c.nK c.oF s mt).2=mr mt:=BX _ _ _ _;have A:iW (∀x,mr ((rM c.nK c.oF s mt)).2=some x->x<w.heap.size):=iF λx aa=>xy Z x (hrow▸aa)
 have U:iW (mr ((rM c.nK c.oF s mt)).2=mr mt):=iF hrow;have C:∀W,nD W mt->iU iG 111 #[lg lH c.nK,lg lH c.oF,FJ mt,ll s] W (xx (rM c.nK c.oF s mt) mt W):=λ(W:iH) (aR:nD W mt)=>JP c.nK c.oF s mt W hs lK aj aR
 obtain⟨R,aL⟩:=ax;rw[aL]at C A U⊢;have C:=iF C;obtain⟨f,m,fr,Q,Y,it⟩:=c;unfold mU.v mU.cs;dsimp only at*;have ay:=iF (sN (w:=w) ⟨f,m,fr,Q,Y,it⟩ (t:=rC));obtain⟨g,hg⟩:=lV w.heap.size;have ak:=iF Z;dsimp only at ay;rw[hg]at ay A;clear aL hc Z aF hs aG aH aI aJ aK aj hrow
 have au:iW (∀az W,w.alloc (lG #[lg lH f,lg lJ m,lg lH fr,lg lH Q,lg lH Y,lg lH it] rC)=az->az.alloc (lG #[lg lI 0,ll ⟨#[]⟩,ll ⟨#[]⟩] pg)=W->VT g w mt mt W/\
   W.cell? ⟨g,1,none⟩=some (lg lJ m)/\W.cell? ⟨g,2,none⟩=some (lg lH fr)/\W.cell? ⟨g,3,none⟩=some (lg lH Q)):=iF λaz W aS aT=>by
  subst aS aT;have aM:=lN.new w #[lg lH f,lg lJ m,lg lH fr,lg lH Q,lg lH Y,lg lH it] rC;have aN:=(iL w.heap.size w).alloc (iI _) (lG #[lg lH f,lg lJ m,lg lH fr,lg lH Q,lg lH Y,lg lH it] rC);have ae:=aN.alloc lU (lG #[lg lI 0,ll ⟨#[]⟩,ll ⟨#[]⟩] pg);have aU:(w.alloc (lG #[lg lH f,lg lJ m,lg lH fr,lg lH Q,lg lH Y,lg lH it] rC)).heap.size=g+1:=by simp[hg]
  have av:=lN.new (w.alloc (lG #[lg lH f,lg lJ m,lg lH fr,lg lH Q,lg lH Y,lg lH it] rC)) #[lg lI 0,ll ⟨#[]⟩,ll ⟨#[]⟩] pg;rw[aU]at av;have V:=aM.alloc (lG #[lg lI 0,ll ⟨#[]⟩,ll ⟨#[]⟩] pg);rw[hg]at V;exact⟨⟨av,ak.out.grown ae,mV ae⟩,V.cell 1,V.cell 2,V.cell 3⟩
 go_in;go_upto_region 1 with fail;obtain⟨hI,aO,aP,aQ⟩:=au.out _ _ rfl rfl;generalize (w.alloc _).alloc _=w2 at*;have af:=iF hI;clear hI au ay ak;go_wp2_with fail;refine(C.out _ af.out.mm).mono ?_;obtain⟨aV,m2⟩:=R;dsimp only at A U;cases aV with
 |error er=>
  rintro e w3 ⟨E,J,rfl⟩;dsimp only at J;have N:iW (VT g w mt m2 w3):=iF ⟨mY af.out.res E (λx aa e=>by have:=A.out x (U.out▸aa);omega),J,nL af.out.gr E⟩;clear E J aO aP aQ;obtain⟨r0,r1,r2,z0,aW,aX⟩:=N.out.res.b3;have aA:=iF (oz (a:=lg lI 0) (b:=ll ⟨#[]⟩) (c:=ll ⟨#[]⟩) N.out.res);have O:=iF (zm (a:=lg lI 0) (b:=ll ⟨#[]⟩) (c:=ll ⟨#[]⟩) N.out A.out hg);go_wp2_with fail;rw[oQ];obtain⟨aB,aC,aD⟩:=aA.out.a3;refine iV (v:=lD #[lC #[lg lI 0,ll ⟨#[]⟩,ll ⟨#[]⟩],lg lH 0,lg lH (er:Nat)]) (by simp[jr,Tryz.results110,go_sem,aB,aC,aD]) rfl ⟨O.out.1,O.out.2,rfl⟩
 |ok y=>
  obtain⟨⟨ag,ah,ai⟩,fn⟩:=y;rintro e w3 ⟨E,J,rfl⟩;dsimp only at J⊢;have N:iW (VT g w mt m2 w3):=iF ⟨mY af.out.res E (λx aa e=>by have:=A.out x (U.out▸aa);omega),J,nL af.out.gr E⟩;clear E J aO aP aQ;obtain⟨r0,r1,r2,z0,aW,aX⟩:=N.out.res.b3;have aA:=iF (oz (a:=lg lI ag) (b:=ll ah) (c:=ll ai) N.out.res);have O:=iF (zm (a:=lg lI ag) (b:=ll ah) (c:=ll ai) N.out A.out hg);go_wp2_with fail;rw[oQ];obtain⟨aB,aC,aD⟩:=aA.out.a3;refine iV (v:=lD #[lC #[lg lI ag,ll ah,ll ai],lg lH (fn:Nat),lg lH 0]) (by simp[jr,Tryz.results110,go_sem,aB,aC,aD]) rfl ⟨O.out.1,O.out.2,rfl⟩
def pK(c:mU)(s:ByteArray)(mt:Option (Nat×MS)):Except Nat (uN×Nat)×Option (Nat×MS):=
 if c.fmt=1 then(rW s c.mag c.nK,mt)else if c.fmt=2 then(uB (mZ c.nK s),mt)else rM c.nK c.oF s mt
theorem xB(c:mU)(s:ByteArray)(mt:Option (Nat×MS)):mr (pK c s mt).2=mr mt:=by
 unfold pK;split;.rfl
 .split
  .rfl
  .exact BX _ _ _ _
def Yj(k:Nat):iJ:=if k=1 then .func (.func 100) #[] #[]else if k=2 then .func (.func 105) #[] #[]else .func (.func 110) #[] #[]
structure FU(g:Nat)(c:mU)(w:iH)(mt:Option (Nat×MS))(W:iH):Prop where
 cf:lN W g #[lg lH c.fmt,lg lJ c.mag,lg lH c.nK,lg lH c.oF,lg lH c.dep,lg lH c.mX] rC
 res:lN W (g+1) #[lg lI 0,ll ⟨#[]⟩,ll ⟨#[]⟩] pg
 gr:w.grownBy W (mr mt)
section
variable {g:Nat}{c:mU}{w W W':iH}{mt:Option (Nat×MS)}
theorem FU.s(h:FU g c w mt W):FU g c w mt W/\W.cell? ⟨g,0,none⟩=some (lg lH c.fmt)/\W.cell? ⟨g,1,none⟩=some (lg lJ c.mag)/\W.cell? ⟨g,2,none⟩=some (lg lH c.nK)/\
 W.cell? ⟨g,3,none⟩=some (lg lH c.oF)/\W.cell? ⟨g,4,none⟩=some (lg lH c.dep)/\W.cell? ⟨g,5,none⟩=some (lg lH c.mX):=⟨h,h.cf.cell 0,h.cf.cell 1,h.cf.cell 2,h.cf.cell 3,h.cf.cell 4,h.cf.cell 5⟩
theorem FU.below(h:FU g c w mt W)(hb:iK W.heap.size W W'):FU g c w mt W':=⟨Below.blk hb h.cf h.cf.lt,Below.blk hb h.res h.res.lt,nL h.gr (mV hb)⟩
theorem FU.drew(h:FU g c w mt W):FU g c w mt W.drew:=⟨h.cf,h.res,⟨h.gr.os,h.gr.tape,h.gr.output,h.gr.size,h.gr.block⟩⟩
theorem FU.grow(h:FU g c w mt W)(hg:W.grownBy W' (mr mt))(hlt:∀x,mr mt=some x->x<g):FU g c w mt W':=
 ⟨mY h.cf hg (λx A e=>by have:=hlt x A;omega),mY h.res hg (λx A e=>by have:=hlt x A;omega),nL h.gr hg⟩
theorem FU.put(h:FU g c w mt W){k:Nat}(hk:g+1<k)(A:w.heap.size<=g)(a b d:iJ):FU g c w mt (vF W k a b d):=
 have o:∀{W:iH}{n:Nat}{cs:Array iJ}{t:jg}(i:Nat)(v:iJ),lN W n cs t->n≠k->lN (W.setCell ⟨k,i,none⟩ v) n cs t:=λi v h hn=>h.setOther (a:=⟨k,i,none⟩) hn v
 ⟨o 2 _ (o 1 _ (o 0 _ h.cf lK) lK) lK,o 2 _ (o 1 _ (o 0 _ h.res lK) lK) lK, pW (p:=⟨k,2,none⟩) (pW (p:=⟨k,1,none⟩) (pW (p:=⟨k,0,none⟩) h.gr lW _) lW _) lW _⟩
theorem WC(h:nD W mt):nD W.drew mt:=by cases mt<;>exact h
end
theorem FV{W:iH}{c:Nat}{b d:iJ}{t:jg}(h:lN W c #[a,b,d] t):W.cell? ⟨c,0,none⟩=some a/\W.cell? ⟨c,1,none⟩=some b/\W.cell? ⟨c,2,none⟩=some d/\
  W.frozen? ⟨c,0,none⟩=false/\W.frozen? ⟨c,1,none⟩=false/\W.frozen? ⟨c,2,none⟩=false:=⟨h.cell 0,h.cell 1,h.cell 2,h.free 0,h.free 1,h.free 2⟩
structure WnF(g:Nat)(c:mU)(w:iH)(mt m2:Option (Nat×MS))(a b d:iJ)(k:Nat)(W:iH):Prop where
 wn:FU g c w mt W
 fr:lN W k #[a,b,d] pg
 mm:nD W m2
theorem WE{g k:Nat}{c:mU}{w W:iH}{mt m2:Option (Nat×MS)}{b d a0 b0 A:iJ}(h:FU g c w mt W)(C:lN W k #[a0,b0,A] pg)(hk:g+1<k)(E:w.heap.size<=g)(hlt:∀x,mr m2=some x->x<g)(J:nD W m2):
  WnF g c w mt m2 a b d k (vF W k a b d):=
 have q:∀i,∀x,mr m2=some x->x≠(⟨k,i,none⟩:kr).block:=λi x N e=>by have:=hlt x N;simp at e;omega
 ⟨h.put hk E a b d,oz C,vv (vv (vv J (q 0) _) (q 1) _) (q 2) _⟩
theorem Bh(c:mU)(s:ByteArray)(mt:Option (Nat×MS)):∀er,(pK c s mt).1=.error er->1<=er:=by
 intro er h;unfold pK at h;split at h
 .dsimp only at h
  unfold rW at h;have hn:=JN (o9 s c.mag c.nK) 9 0;split at h;.cases h
  .rename_i h0;cases h;omega
 .split at h
  .dsimp only at h
   unfold uB at h;split at h;.rename_i h0;cases h;omega
   .cases h
  .unfold rM at h
   split at h;.rename_i h0;cases h;omega
   .split at h
    .rename_i e m2 A
     have C:=DJ _ _ _ e (by rw[A]);cases h;unfold zO;split<;>omega
    .cases h
theorem SQ(c:mU)(k:Nat)(hk:c.fmt=k)(s:ByteArray)(mt:Option (Nat×MS))(w:iH)(hs:s.size<=jb)(hc:mK c=true)(A:c.wf)(C:nD w mt):
  ∃f,Yj k=.func (.func f) #[] #[]/\iU iG f #[c.v,FJ mt,ll s] w (xx (pK c s mt) mt w):=by
 have E:=(oV hc).1;obtain rfl|rfl|rfl:k=1\/k=2\/k=3:=lK
 .have:pK c s mt=(rW s c.mag c.nK,mt):=if_pos hk
  rw[this];exact⟨_,rfl,SL c s mt w hs hc A C⟩
 .have:pK c s mt=(uB (mZ c.nK s),mt):=by unfold pK;rw[if_neg lK,if_pos lK]
  rw[this];exact⟨_,rfl,Qv c s mt w hs hc A C⟩
 .have:pK c s mt=rM c.nK c.oF s mt:=by unfold pK;rw[if_neg lK,if_neg lK]
  rw[this];exact⟨_,rfl,DK c s mt w hs hc A C⟩
theorem WG(W:iH):kJ iG (jB 142 (lC xz) (lg lH 1)) W=.ok (lC #[.func (.func 97) #[] #[],.func (.func 98) #[] #[],.func (.func 100) #[] #[],.func (.func 102) #[] #[]]) W:=rfl
theorem WH(W:iH):kJ iG (jB 142 (lC xz) (lg lH 2)) W=.ok (lC #[.func (.func 96) #[] #[],.func (.func 103) #[] #[],.func (.func 105) #[] #[],.func (.func 107) #[] #[]]) W:=rfl
theorem Oy(W:iH):kJ iG (jB 142 (lC xz) (lg lH 3)) W=.ok (lC #[.func (.func 96) #[] #[],.func (.func 108) #[] #[],.func (.func 110) #[] #[],.func (.func 107) #[] #[]]) W:=rfl
theorem Mm(a b c d:iJ)(W:iH):kJ iG (Instr.field 141 (lC #[a,b,c,d]) 2) W=.ok c W:=rfl
end
section
open Go.RowKit Go.ChangeShapes Go.WideShapes Go.Deep
inductive lL(α:Type) where
 |node (a:α) (sub:List (lL α))
section
variable {α:Type}
mutual
def lL.count:lL α->Nat
 | .node _ s=>1+lL.lZ s
def lL.lZ:List (lL α)->Nat
 |[]=>0
 |x::A=>lL.count x+lL.lZ A
end
mutual
def lL.deep:lL α->Nat
 | .node _ s=>lL.mG s+1
def lL.mG:List (lL α)->Nat
 |[]=>0
 |x::A=>max (lL.deep x) (lL.mG A)
end
mutual
def lL.all(p:α->List (lL α)->Bool):lL α->Bool
 | .node a s=>p a s&&lL.mR p s
def lL.mR(p:α->List (lL α)->Bool):List (lL α)->Bool
 |[]=>true
 |x::A=>lL.all p x&&lL.mR p A
end
def lL.lab:lL α->α| .node a _=>a
def lL.sub:lL α->List (lL α)| .node _ s=>s
@[simp] theorem lL.nk (a:α) (s:List (lL α)):(lL.node a s).lab=a:=rfl
@[simp] theorem lL.oD (a:α) (s:List (lL α)):(lL.node a s).sub=s:=rfl
theorem lL.eta(x:lL α): .node x.lab x.sub=x:=by cases x;rfl
mutual
theorem lL.a07{P:lL α->Prop}(h:∀a s,(∀x,x∈s->P x)->P (.node a s)):∀x,P x
 | .node a s=>h a s (lL.a08 h s)
theorem lL.a08{P:lL α->Prop}(h:∀a s,(∀x,x∈s->P x)->P (.node a s)):∀(s:List (lL α))(x:lL α),x∈s->P x
 |[],_,A=>by cases A
 |y::E,x,A=>by
  rcases kD.1 A with C|C
  .exact C▸lL.a07 h y
  .exact lL.a08 h E x C
end
theorem lL.ind{P:lL α->Prop}(h:∀a s,(∀x,x∈s->P x)->P (.node a s))(x:lL α):P x:=lL.a07 h x
theorem lL.uj(x:lL α):0<x.count:=by cases x;simp only[lL.count];omega
theorem lL.DL(x:lL α):0<x.deep:=by cases x;simp only[lL.deep];omega
theorem lL.pX(s t:List (lL α)):lL.lZ (s++t)=lL.lZ s+lL.lZ t:=by
 induction s with
 |nil=>simp[lL.lZ]
 |cons x C A=>simp[lL.lZ,A,jI]
theorem lL.uC{s:List (lL α)}{x:lL α}(h:x∈s):x.count<=lL.lZ s:=by
 induction s with
 |nil=>cases h
 |cons y E C=>
  simp only[lL.lZ];rcases kD.1 h with A|A
  .subst A;omega
  .have:=C A;omega
theorem lL.uT{s:List (lL α)}{i:Nat}{x:lL α}(h:s[i]? =some x):lL.lZ (s.take (i+1))=lL.lZ (s.take i)+x.count:=by
 rw[List.take_add_one,h];simp[lL.pX,lL.lZ]
theorem lL.uD(s:List (lL α))(i:Nat):lL.lZ (s.take i)<=lL.lZ s:=by
 conv=>rhs;rw[<-List.take_append_drop i s,lL.pX]
 omega
theorem lL.og(s:List (lL α)):s.length<=lL.lZ s:=by
 induction s with
 |nil=>simp
 |cons x A C=>simp only[lL.lZ,jm];have:=lL.uj x;omega
theorem lL.tY(s t:List (lL α)):lL.mG (s++t)=max (lL.mG s) (lL.mG t):=by
 induction s with
 |nil=>simp[lL.mG]
 |cons x C A=>simp[lL.mG,A,Nat.max_assoc]
theorem lL.uE{s:List (lL α)}{i:Nat}{x:lL α}(h:s[i]? =some x):lL.mG (s.take (i+1))=max (lL.mG (s.take i)) x.deep:=by
 rw[List.take_add_one,h];simp[lL.tY,lL.mG]
theorem lL.xC(p:α->List (lL α)->Bool)(s t:List (lL α)):lL.mR p (s++t)=(lL.mR p s&&lL.mR p t):=by
 induction s with
 |nil=>simp[lL.mR]
 |cons x C A=>simp[lL.mR,A,Bool.and_assoc]
theorem lL.sD{p:α->List (lL α)->Bool}{s:List (lL α)}{i:Nat}{x:lL α}(h:s[i]? =some x):lL.mR p (s.take (i+1))=(lL.mR p (s.take i)&&x.all p):=by
 rw[List.take_add_one,h];simp[lL.xC,lL.mR]
theorem lL.sF{p:α->List (lL α)->Bool}{s:List (lL α)}{i:Nat}{x:lL α}(h:s[i]? =some x)(A:x.all p=false):lL.mR p s=false:=by
 induction s generalizing i with
 |nil=>simp at h
 |cons y E C=>
  cases i with
  |zero=>simp at h;subst h;simp[lL.mR,A]
  |succ i=>simp at h;simp[lL.mR,C h]
structure Shape(α:Type) where
 k:Nat
 cells:α->iJ->List iJ
 ok:α->Prop
 hk:∀a v,(cells a v).length=k
def SliceOf(w:iH)(Q:Nat->Prop)(v:iJ)(n:Nat)(R:Nat->Nat->Prop):Prop:=
 ∃oa cap,v=lh oa n cap/\n<=cap/\cap<=jb/\(0<n->∃b off,oa=some ⟨b,off,none⟩/\b<w.heap.size/\Q b/\R b off)
mutual
def Shape.qA(S:Shape α)(w:iH)(Q:Nat->Prop):lL α->Nat->Nat->Prop
 | .node a s,b,off=>S.ok a/\∃v,(∀j,j<S.k->w.cell? ⟨b,off+j,none⟩=(S.cells a v)[j]?)/\SliceOf w Q v s.length (Shape.oM S w Q s)
def Shape.oM(S:Shape α)(w:iH)(Q:Nat->Prop):List (lL α)->Nat->Nat->Prop
 |[],_,_=>True
 |x::A,b,off=>Shape.qA S w Q x b off/\Shape.oM S w Q A b (off+S.k)
end
def Shape.lY(S:Shape α)(w:iH)(Q:Nat->Prop)(v:iJ)(s:List (lL α)):Prop:=SliceOf w Q v s.length (Shape.oM S w Q s)
theorem SliceOf.mono{w w':iH}{Q Q':Nat->Prop}{v:iJ}{n:Nat}{R A:Nat->Nat->Prop}(h:SliceOf w Q v n R)(hs:w.heap.size<=w'.heap.size)(E:∀b,b<w.heap.size->Q b->Q' b)(J:∀b o,Q b->b<w.heap.size->R b o->A b o):SliceOf w' Q' v n A:=by
 obtain⟨oa,cap,N,O,U,V⟩:=h;refine⟨oa,cap,N,O,U,λhn=> ?_⟩;obtain⟨b,off,e,hb,C,Y⟩:=V hn;exact⟨b,off,e,lK,E b hb C,J b off C hb Y⟩
mutual
theorem Shape.qA.keep{S:Shape α}{w w':iH}{Q Q':Nat->Prop}(hs:w.heap.size<=w'.heap.size)(C:∀b,b<w.heap.size->Q b->Q' b)(hk:∀b,b<w.heap.size->Q b->w'.heap[b]? =w.heap[b]?):
  ∀(x:lL α)(b off:Nat),b<w.heap.size->Q b->S.qA w Q x b off->S.qA w' Q' x b off
 | .node a s,b,off,hb,J,h=>by
  simp only[Shape.qA]at h⊢;obtain⟨ho,v,hc,A⟩:=h;refine⟨ho,v,λj N=> ?_,A.mono hs C λb' O U E V=>Shape.oM.keep hs C hk s b' O E U V⟩;rw[World.cell?_of_block (w:=w) (a:=⟨b,off+j,none⟩) (hk b hb J)];exact hc j N
theorem Shape.oM.keep{S:Shape α}{w w':iH}{Q Q':Nat->Prop}(hs:w.heap.size<=w'.heap.size)(A:∀b,b<w.heap.size->Q b->Q' b)(hk:∀b,b<w.heap.size->Q b->w'.heap[b]? =w.heap[b]?):
  ∀(s:List (lL α))(b off:Nat),b<w.heap.size->Q b->S.oM w Q s b off->S.oM w' Q' s b off
 |[],_,_,_,_,_=>by simp only[Shape.oM]
 |x::E,b,off,hb,C,h=>by
  simp only[Shape.oM]at h⊢;exact⟨Shape.qA.keep hs A hk x b off hb C h.1,Shape.oM.keep hs A hk E b _ hb C h.2⟩
end
theorem Shape.lY.keep{S:Shape α}{w w':iH}{Q Q':Nat->Prop}{v:iJ}{s:List (lL α)}(h:S.lY w Q v s)(hs:w.heap.size<=w'.heap.size)(A:∀b,b<w.heap.size->Q b->Q' b)(hk:∀b,b<w.heap.size->Q b->w'.heap[b]? =w.heap[b]?):S.lY w' Q' v s:=
 SliceOf.mono h hs A λb o q hb C=>Shape.oM.keep hs A hk s b o hb q C
theorem Shape.lY.below{S:Shape α}{w w':iH}{Q:Nat->Prop}{v:iJ}{s:List (lL α)}(h:S.lY w Q v s)(hb:iK w.heap.size w w'):S.lY w' Q v s:=
 h.keep hb.size (λ_ _ h=>h) λb hl _=>hb.block b hl
theorem Shape.oM.get{S:Shape α}{w:iH}{Q:Nat->Prop}:∀{s:List (lL α)}{b off:Nat},S.oM w Q s b off->∀{i:Nat}{x:lL α},s[i]? =some x->S.qA w Q x b (off+i*S.k)
 |[],_,_,_,_,_,A=>by simp at A
 |y::C,b,off,h,i,x,A=>by
  simp only[Shape.oM]at h;cases i with
  |zero=>simp at A;subst A;simpa using h.1
  |succ i=>
   have:=Shape.oM.get h.2 (i:=i) (x:=x) (by simpa using A);rwa [show off+S.k+i*S.k=off+(i+1)*S.k by rw[j6];omega]at this
theorem Shape.lY.get{S:Shape α}{w:iH}{Q:Nat->Prop}{v:iJ}{s:List (lL α)}(h:S.lY w Q v s):
  ∃oa cap,v=lh oa s.length cap/\s.length<=cap/\cap<=jb/\∀i x,s[i]? =some x->∃b off u,oa=some ⟨b,off,none⟩/\b<w.heap.size/\Q b/\S.ok x.lab/\
   (∀j,j<S.k->w.cell? ⟨b,off+(i*S.k+j),none⟩=(S.cells x.lab u)[j]?)/\S.lY w Q u x.sub:=by
 obtain⟨oa,cap,C,E,J,N⟩:=h;refine⟨oa,cap,C,E,J,λi x A=> ?_⟩;obtain⟨hi,_⟩:=jH.1 A;obtain⟨b,off,e,hb,O,U⟩:=N lK;have:=U.get A;cases x with
 |node a Z=>
  simp only[Shape.qA]at this;obtain⟨ho,u,hc,V⟩:=this;exact⟨b,off,u,e,hb,O,ho,λj Y=>by rw[<-jI];exact hc j Y,V⟩
end
end
end Go.Proofs.YtamfcjmhnndbdaaGreatDoor


