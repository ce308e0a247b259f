/- Part 15 of the proof. -/
import Derived.Test.YtamfcjmhnndbdaaGreatDoorZu00
import Derived.Test.YtamfcjmhnndbdaaGreatDoorZu10
import Derived.Test.YtamfcjmhnndbdaaGreatDoorZu14
import Derived.Deep.RegionWith
import Derived.Deep.RegionHeld3
open Go.Value renaming agg→nC,bool→nA,int→ng,pointer→nz,slice→nk,string→ny,tuple→nD,slice→kM
open Go.Obj renaming cells→nG
open Go.IntKind renaming i64→nH
open Go.Ending renaming returned→nE
open Go.Lib renaming hid→jH
open Go.Proofs.Tryz renaming prog→jI
open Go renaming World→jJ,Value→jP,Calls→jV,bodyPost_ret→j4,maxLen→j5,TypeId→ko,results→kK,Addr→l5
open Nat renaming le_refl→jL,le_trans→kg,lt_of_lt_of_le→kG,zero_le→kI,lt_or_ge→lh,le_of_eq→mV
open Go.RowKit renaming Below→jS,Hid→jW,intOf→kW
open Go.RowKit.Below renaming refl→jT,heap_setCell→j6
open And renaming intro→jU
open List renaming length_append→jY
open Go.World renaming setCell→kC,cell?→mW
open Go.Act renaming put→kE
open Option renaming bind_some→kF
open Go.Lit renaming int→lJ
open UInt8 renaming toNat_inj→lU
namespace Go.Proofs.YtamfcjmhnndbdaaGreatDoor
set_option linter.unusedVariables false
set_option linter.unusedSimpArgs false
set_option maxRecDepth 100000
set_option maxHeartbeats 8000000
variable {w w' w0:jJ}{b p g t n gr B:Nat}{s:ByteArray}{l r l1:List UInt8}{x:nL TL}{a c d v:jP}{cs:Array jP}{Q:Nat->Prop}{Gh:List UInt8->Nat->Option (nL TL×List UInt8×Nat)}{R:Option (nL TL×List UInt8×Nat)}{L:List (qh TL)}
section
open Go.RowKit
theorem sW.below{l:Nat}(h:sW w b s p l)(hb:jS w.heap.size w w'):sW w' b s p l:=Below.blk hb h (nO.lt h)
theorem sW.lt{l:Nat}(h:sW w b s p l):b<w.heap.size:=nO.lt h
def qi(w:jJ)(g:Nat)(a b c d:jP):jJ:=(((w.setCell ⟨g,0,none⟩ a).setCell ⟨g,1,none⟩ b).setCell ⟨g,2,none⟩ c).setCell ⟨g,3,none⟩ d
theorem oH(w:jJ)(g:Nat)(a b c d:jP):(((w.setCell ⟨g,0,none⟩ a).setCell ⟨g,1,none⟩ b).setCell ⟨g,2,none⟩ c).setCell ⟨g,3,none⟩ d=qi w g a b c d:=rfl
theorem NV{x y z u b:jP}{t:ko}(h:nO w g #[x,y,z,u] t):nO (qi w g a b c d) g #[a,b,c,d] t:=by
 have:=(((h.set 0 a).set 1 b).set 2 c).set 3 d;simpa [qi]using this
theorem Dk{b0:Nat}{u:jJ}{b:jP}(h:pE b0 u w)(hg:u.heap.size<=g):pE b0 u (qi w g a b c d):=
 pE.Bp (pE.Bp (pE.Bp (pE.Bp h (a:=⟨g,0,none⟩) hg a) (a:=⟨g,1,none⟩) hg b) (a:=⟨g,2,none⟩) hg c) (a:=⟨g,3,none⟩) hg d
theorem yX{h:Nat}{b:jP}{t:ko}(hb:nO w h cs t)(A:h≠g):nO (qi w g a b c d) h cs t:=
 (((hb.setOther (a:=⟨g,0,none⟩) A a).setOther (a:=⟨g,1,none⟩) A b).setOther (a:=⟨g,2,none⟩) A c).setOther (a:=⟨g,3,none⟩) A d
theorem Az{b:jP}(k:Nat)(h:k≠g):(qi w g a b c d).heap[k]? =w.heap[k]? :=by
 unfold qi;rw[j6 _ _ _ _ h,j6 _ _ _ _ h,j6 _ _ _ _ h,j6 _ _ _ _ h]
theorem yC{b:jP}:(qi w g a b c d).heap.size=w.heap.size:=by simp[qi,kC]
theorem wJ{b:jP}{s:List (nL TL)}(h:oh.nX w Q v s)(A:∀k,Q k->k≠g):oh.nX (qi w g a b c d) Q v s:=
 h.keep (mV yC.symm) (λ_ _ h=>h) λk _ hk=>Az k (A k hk)
def yD(kind:Int)(b:Nat)(s:ByteArray)(p l most:Nat)(w:jJ)(e:Ending)(w':jJ):Prop:=
 ∃(n:Nat) (ok:Bool) (A:Nat),e=nE (nD #[nC #[ng nH kind,ng nH (n:Int),nk none 0 0,ng nH 0],nA ok])/\pE b w w'/\sW w' b s A l/\A<=s.size/\n<=most/\
  (ok=true->num most (nP s p)=some (n,nP s A))/\(ok=false->num most (nP s p)=none)
theorem Dl(kind:Int)(b E:Nat)(s:ByteArray)(p l most:Nat)(w:jJ)(hs:s.size<=j5)(hp:p<=s.size)(aj:most<=65536)(hb:sW w b s p l)(Y:w.cell? ⟨E,0,none⟩=some (nz (some ⟨b,0,none⟩))):
  jV jI 213 #[ng nH kind,ng nH (most:Int),nz (some ⟨E,0,none⟩)] w (yD kind b s p l most w):=by
 have C:E<w.heap.size:=by
  rcases lh E w.heap.size with h|h
  .exact h
  .simp[mW,Array.getElem?_eq_none h]at Y
 obtain⟨g,hg⟩:=nT w.heap.size
 have Z:jW (∀W,w.alloc (nG #[ng nH 0,ng nH 0,nk none 0 0,ng nH 0] 63)=W->pE b w W/\sW W b s p l/\W.cell? ⟨E,0,none⟩=some (nz (some ⟨b,0,none⟩))/\
   nO W g #[ng nH 0,ng nH 0,nk none 0 0,ng nH 0] 63):=jH λW h=>by
  subst h;have I:=(jT w.heap.size w).alloc (jL _) (nG #[ng nH 0,ng nH 0,nk none 0 0,ng nH 0] 63);exact⟨pE.of I,hb.below I,(I.cell (p:=⟨E,0,none⟩) C).trans Y,hg▸nO.new w _ _⟩
 have az:b<g:=hg▸hb.lt;have aB:=jH C;clear hb Y C;go_in;go_upto_region 1 with fail;generalize w.alloc (nG #[ng nH 0,ng nH 0,nk none 0 0,ng nH 0] 63)=w1 at*;obtain⟨N,O,aA,Q⟩:=Z.out _ rfl;have ak:=jH (U4 b s p l most w1 hs hp aj O);have aa:=jH N;have ae:=jH Q;clear Z N O Q;go_wp2_with fail;refine(ak).mono ?_;rintro e w2 ⟨n,ok,au,rfl,J,U,af,ag,hok,V⟩;have A:nO w2 g #[ng nH 0,ng nH 0,nk none 0 0,ng nH 0] 63:=J.blk ae nK;have aC:w2.cell? ⟨g,0,none⟩=some (ng nH 0):=A.cell 0;have aD:w2.cell? ⟨g,1,none⟩=some (ng nH 0):=A.cell 1;have aF:w2.cell? ⟨g,2,none⟩=some (nk none 0 0):=A.cell 2;have aG:w2.cell? ⟨g,3,none⟩=some (ng nH 0):=A.cell 3;obtain⟨z0,aH,aI,z3⟩:=A.f4;have av:=jH (jU (aa.trans J) (jU U (jU af (jU ag (jU hok V)))));have ah:=jH A;clear J U hok V A;go_wp2_with fail;rw[oH];obtain⟨ax,a2,a3,a4,a5,a6⟩:=av.out;have ai:=NV (a:=ng nH kind) (b:=ng nH (n:Int)) (c:=nk none 0 0) (d:=ng nH 0) (show nO w2 g #[ng nH 0,ng nH 0,nk none 0 0,ng nH 0] 63 from ah.out);obtain⟨ay,e1,e2,e3⟩:=ai.a4;refine j4 (v:=nD #[nC #[ng nH kind,ng nH n,nk none 0 0,ng nH 0],nA ok]) (by simp[kK,Tryz.results213,go_sem,ay,e1,e2,e3]) rfl ?_;exact⟨n,ok,au,rfl,Dk ax nK,yX a2 nK,a3,a4,a5,a6⟩
abbrev TT:ko:=63
def tO(R:Option (nL TL×List UInt8×Nat))(b:Nat)(s:ByteArray)(w:jJ)(e:Ending)(w':jJ):Prop:=
 ∃(a:TL) (o:Option l5) (n c:Nat) (ok:Bool) (A C:Nat),e=nE (nD #[nC #[ng nH a.kind,ng nH a.size,nk o n c,ng nH a.tail],nA ok])/\pE b w w'/\sW w' b s A C/\A<=s.size/\C<=64/\
  (ok=true->∃sub,R=some (.node a sub,nP s A,C)/\TL.wf a/\oh.nX w' (λk=>w.heap.size<=k) (nk o n c) sub)/\(ok=false->R=none)
theorem qK{c:UInt8}(hp:p<=s.size)(h:oO c (nP s p)=true):p<s.size/\nP s p=c::nP s (p+1):=by
 rcases lh p s.size with A|A
 .rw[qU A]at h⊢
  simp[oO]at h;exact⟨A,by rw[h]⟩
 .rw[si A]at h;simp[oO]at h
theorem sU{c:UInt8}(h:oO c l=false)(e:l=c::r):False:=by
 rw[e]at h;simp[oO]at h
theorem Hq(hp:p<=s.size)(h:oO 63 (nP s p)=true):mark (nP s p) t=some (nP s (p+1),t+1):=by
 rw[(qK hp h).2];rfl
theorem K9(h:oO 63 (nP s p)=false):mark (nP s p) t=if 0<t then none else some (nP s p,t):=by
 unfold mark;split;.rename_i r e;exact(sU h e).elim
 .rfl
theorem Qs{f:Nat}{sub:List (nL TL)}(h:mark l t=none):wV Gh (f+1) l n sub t=none:=by
 simp only[wV,h];rfl
theorem Qt{f A:Nat}{sub:List (nL TL)}(h:mark l t=some (l1,A))(C:Gh l1 n=none):wV Gh (f+1) l n sub t=none:=by
 simp only[wV,h,kF,C];rfl
theorem NW{f A n2:Nat}{sub:List (nL TL)}(h:mark l t=some (l1,A))(C:Gh l1 n=some (x,125::r,n2)):
  wV Gh (f+1) l n sub t=some (.node ⟨5,0,A⟩ (sub++[x]),r,n2):=by
 simp only[wV,h,kF,C]
theorem JF{f A n2:Nat}{sub:List (nL TL)}(h:mark l t=some (l1,A))(C:Gh l1 n=some (x,44::r,n2)):
  wV Gh (f+1) l n sub t=wV Gh f r n2 (sub++[x]) A:=by
 simp only[wV,h,kF,C]
theorem U5{f A n2:Nat}{l2:List UInt8}{sub:List (nL TL)}(h:mark l t=some (l1,A))(C:Gh l1 n=some (x,l2,n2))(E:oO 125 l2=false)(I:oO 44 l2=false):wV Gh (f+1) l n sub t=none:=by
 simp only[wV,h,kF,C];split;.exact(sU E rfl).elim
 .exact(sU I rfl).elim
 .rfl
theorem Dm:Tryz.prog.underlying 61=some (.slice TT):=Tryz.underlying61
theorem SG:(Tryz.prog.info? TT).map (λi=>(i.zero,i.size,i.bytes))=some (some (nC #[ng nH 0,ng nH 0,nk none 0 0,ng nH 0]),4,48):=nM
theorem La:∀(a:TL)(o:Option l5)(n c:Nat),∀u∈oh.cells a (nk o n c),u.oneCell'=true:=by
 intro a o n c u A;simp[oh]at A;rcases A with rfl|rfl|rfl|rfl<;>rfl
def VP(w:jJ)(g:Nat)(v:jP)(t:Nat):Prop:=nO w g #[ng nH 5,ng nH 0,v,ng nH (t:Int)] TT
theorem VP.more(h:VP w g v t):VP (w.setCell ⟨g,3,none⟩ (ng nH ((t:Int)+1))) g v (t+1):=by
 have:=nO.set h 3 (ng nH ((t:Int)+1));simpa [VP]using this
theorem VP.sub(h:VP w g v t)(v':jP):VP (w.setCell ⟨g,2,none⟩ v') g v' t:=by
 have:=nO.set h 2 v';simpa [VP]using this
structure Hr(w0:jJ)(b gr B:Nat)(s:ByteArray)(p l:Nat)(v:jP)(L:List (qh TL))(t:Nat)(w:jJ):Prop where
 upd:pE b w0 w
 rd:sW w b s p l
 res:∃cs,nO w gr cs TT/\cs.size=4
 st:VP w (gr+1) v t
 own:vV oh TT w B v L
 hp:p<=s.size
 hl:l<=64
 hlen:L.length<=64
 ht:t<=64
 hB:B<=w.heap.size
theorem wK{b:jP}{t:ko}(h:nO w g cs t)(hs:cs.size=4):nO (qi w g a b c d) g #[a,b,c,d] t:=by
 obtain⟨l⟩:=cs
 match l,hs with
 |[x,y,z,u],_=>exact NV h
theorem NY{l:Nat}(I:pE b w0 w)(J:sW w b s p l)(hp:p<=s.size)(hl:l<=64)(hg:∃cs,nO w gr cs TT/\cs.size=4)(A:w0.heap.size<=gr)(hb:b<w0.heap.size)(N:R=none):
  (qi w gr (ng nH 0) (ng nH 0) (nk none 0 0) (ng nH 0)).cell? ⟨gr,0,none⟩=some (ng nH 0)/\(qi w gr (ng nH 0) (ng nH 0) (nk none 0 0) (ng nH 0)).cell? ⟨gr,1,none⟩=some (ng nH 0)/\
   (qi w gr (ng nH 0) (ng nH 0) (nk none 0 0) (ng nH 0)).cell? ⟨gr,2,none⟩=some (nk none 0 0)/\(qi w gr (ng nH 0) (ng nH 0) (nk none 0 0) (ng nH 0)).cell? ⟨gr,3,none⟩=some (ng nH 0)/\
   tO R b s w0 (nE (nD #[nC #[ng nH 0,ng nH 0,nk none 0 0,ng nH 0],nA false])) (qi w gr (ng nH 0) (ng nH 0) (nk none 0 0) (ng nH 0)):=by
 obtain⟨cs,C,E⟩:=hg;have hB:=wK (a:=ng nH 0) (b:=ng nH 0) (c:=nk none 0 0) (d:=ng nH 0) C E;exact⟨hB.cell 0,hB.cell 1,hB.cell 2,hB.cell 3,⟨0,0,0⟩,none,0,0,false,p,l,rfl,Dk I A,yX J nK,hp,hl,(λh=>by cases h),λ_=>N⟩
theorem Hr.sub{l:Nat}(h:Hr w0 b gr B s p l v L t w)(A:pE b w w')(I:b<gr)(Q:gr+2<=B){C E:Nat}(J:sW w' b s C E)(hp:C<=s.size)(hl:E<=64):
  Hr w0 b gr B s C E v L t w':=by
 obtain⟨cs,N,O⟩:=h.res;exact⟨h.upd.trans A,J,⟨cs,A.blk N nK,O⟩,A.blk h.st nK,h.own.upd A nK,hp,hl,h.hlen,h.ht,kg h.hB A.size⟩
theorem Hr.more{l:Nat}(h:Hr w0 b gr B s p l v L t w)(A:b<gr)(J:gr+2<=B)(N:w0.heap.size<=gr)(ht:t<64):
  Hr w0 b gr B s p l v L (t+1) (w.setCell ⟨gr+1,3,none⟩ (ng nH ((t:Int)+1))):=by
 obtain⟨cs,C,E⟩:=h.res;have I:pE (gr+1) w (w.setCell ⟨gr+1,3,none⟩ (ng nH ((t:Int)+1))):=(pE.refl _ _).set 3 _;exact⟨h.upd.Bp (a:=⟨gr+1,3,none⟩) (show w0.heap.size<=gr+1 by omega) _,nO.setOther h.rd nQ _,⟨cs,C.setOther nR _,E⟩,h.st.more,h.own.upd I nK,h.hp,h.hl,h.hlen,nK,by simpa [kC]using h.hB⟩
theorem Hr.grown{l:Nat}{v':jP}{y:qh TL}(h:Hr w0 b gr B s p l v L t w)(E:b<gr)(Q:gr+2<=B)(U:w0.heap.size<=gr)(hL:L.length<64)(ho:vV oh TT w' B v' (L++[y]))(hb:jS B w w')(hsz:w.heap.size<w'.heap.size)(hg:w.grownBy w' v.ownBlock):Hr w0 b gr B s p l v' (L++[y]) t (w'.setCell ⟨gr+1,2,none⟩ v'):=by
 obtain⟨cs,I,J⟩:=h.res;have N:pE (gr+1) w' (w'.setCell ⟨gr+1,2,none⟩ v'):=(pE.refl _ _).set 2 _;have O:sW w' b s p l:=Below.blk hb h.rd nK;have hst:VP w' (gr+1) v t:=Below.blk hb h.st nK;have A:pE b w0 w':=⟨hg.os.trans h.upd.os,hg.tape.trans h.upd.tape,hg.output.trans h.upd.output,kg h.upd.size hg.size,λk hk C=>by
  rw[<-h.upd.block k hk C];refine hg.block k (kG hk h.upd.size) λe=> ?_
  have:=(h.own.block k e.symm).1;omega⟩
 exact⟨A.Bp (a:=⟨gr+1,2,none⟩) (show w0.heap.size<=gr+1 by omega) _,nO.setOther O nQ _,⟨cs,(Below.blk hb I nK).setOther nR _,J⟩,hst.sub v',ho.upd N nK,h.hp,h.hl,nQ,h.ht,by simp[kC];have:=h.hB;omega⟩
theorem Hr.c0{l:Nat}(h:Hr w0 b gr B s p l v L t w):w.cell? ⟨gr+1,0,none⟩=some (ng nH 5)/\w.cell? ⟨gr+1,1,none⟩=some (ng nH 0)/\
  w.cell? ⟨gr+1,2,none⟩=some v/\w.cell? ⟨gr+1,3,none⟩=some (ng nH (t:Int))/\w.frozen? ⟨gr+1,2,none⟩=false/\w.frozen? ⟨gr+1,3,none⟩=false:=by
 have:=h.st;exact⟨nO.cell this 0,nO.cell this 1,nO.cell this 2,nO.cell this 3,nO.free this 2,nO.free this 3⟩
theorem Hr.r0{l:Nat}(h:Hr w0 b gr B s p l v L t w):(∃x,w.cell? ⟨gr,0,none⟩=some x)/\(∃x,w.cell? ⟨gr,1,none⟩=some x)/\(∃x,w.cell? ⟨gr,2,none⟩=some x)/\(∃x,w.cell? ⟨gr,3,none⟩=some x)/\
  w.frozen? ⟨gr,0,none⟩=false/\w.frozen? ⟨gr,1,none⟩=false/\w.frozen? ⟨gr,2,none⟩=false/\w.frozen? ⟨gr,3,none⟩=false:=by
 obtain⟨⟨l⟩,A,C⟩:=h.res
 match l,C with
 |[x,y,z,u],_=>exact⟨⟨x,A.cell 0⟩,⟨y,A.cell 1⟩,⟨z,A.cell 2⟩,⟨u,A.cell 3⟩,A.free 0,A.free 1,A.free 2,A.free 3⟩
theorem Hr.Lb{l:Nat}(h:Hr w0 b gr B s p l v L t w)(A:w0.heap.size<=gr)(hb:b<w0.heap.size):
  (qi w gr (ng nH 0) (ng nH 0) (nk none 0 0) (ng nH 0)).cell? ⟨gr,0,none⟩=some (ng nH 0)/\(qi w gr (ng nH 0) (ng nH 0) (nk none 0 0) (ng nH 0)).cell? ⟨gr,1,none⟩=some (ng nH 0)/\
   (qi w gr (ng nH 0) (ng nH 0) (nk none 0 0) (ng nH 0)).cell? ⟨gr,2,none⟩=some (nk none 0 0)/\(qi w gr (ng nH 0) (ng nH 0) (nk none 0 0) (ng nH 0)).cell? ⟨gr,3,none⟩=some (ng nH 0)/\
   tO none b s w0 (nE (nD #[nC #[ng nH 0,ng nH 0,nk none 0 0,ng nH 0],nA false])) (qi w gr (ng nH 0) (ng nH 0) (nk none 0 0) (ng nH 0)):=
 NY h.upd h.rd h.hp h.hl h.res A hb rfl
theorem Hr.Lc{l:Nat}{oa:Option l5}{cap:Nat}(h:Hr w0 b gr B s p l (nk oa n cap) L t w)(E:w0.heap.size<=gr)(hb:b<w0.heap.size)(N:gr+2<=B):
  (qi w gr (ng nH 5) (ng nH 0) (nk oa n cap) (ng nH t)).cell? ⟨gr,0,none⟩=some (ng nH 5)/\(qi w gr (ng nH 5) (ng nH 0) (nk oa n cap) (ng nH t)).cell? ⟨gr,1,none⟩=some (ng nH 0)/\
   (qi w gr (ng nH 5) (ng nH 0) (nk oa n cap) (ng nH t)).cell? ⟨gr,2,none⟩=some (nk oa n cap)/\(qi w gr (ng nH 5) (ng nH 0) (nk oa n cap) (ng nH t)).cell? ⟨gr,3,none⟩=some (ng nH t)/\
   tO (some (.node ⟨5,0,t⟩ (L.map qh.tree),nP s p,l)) b s w0 (nE (nD #[nC #[ng nH 5,ng nH 0,nk oa n cap,ng nH t],nA true])) (qi w gr (ng nH 5) (ng nH 0) (nk oa n cap) (ng nH t)):=by
 obtain⟨cs,A,C⟩:=h.res;have hB:=wK (a:=ng nH 5) (b:=ng nH 0) (c:=nk oa n cap) (d:=ng nH t) A C;have ht:=h.ht;refine⟨hB.cell 0,hB.cell 1,hB.cell 2,hB.cell 3,⟨5,0,t⟩,oa,n,cap,true,p,l,rfl,Dk h.upd E,yX h.rd nK,h.hp,h.hl,(λ_=>⟨L.map qh.tree,rfl,⟨rfl,rfl,?_⟩,?_⟩),λh=>by cases h⟩
 .have I:IntKind.i64.min= -9223372036854775808:=rfl
  have J:IntKind.i64.max=9223372036854775807:=rfl;simp[Lit.wf,I,J];omega
 .exact(wJ h.own.subs (λk hk=>by omega)).keep (jL _) (λk _ hk=>by omega) λ_ _ _=>rfl
theorem SH{p:Prop}(h:p:=by
 have hal:=(jT w4.heap.size w4).alloc (jL _) o;exact F4.sub (pE.of hal) HC.1 (jL _) (F4.rd.below hal) OV hl4):p:=h
theorem YD{p:Prop}(h:p:=by
 rw[hq2]at CP3;have HQ2:=jH hq2;clear hq2;go_wp2_with fail;refine(CP3).mono ?_;rintro e w9 ⟨rfl,hu9,Qo⟩;have F9:=jH (F8.sub hu9 HC.1 (jL _) (show sW w9 b s p2 l2 from by simpa using Qo) OV nK);clear hu9 Qo;obtain⟨⟨x0,r0⟩,⟨x1,r1⟩,⟨x2,r2⟩,⟨x3,r3⟩,y0,y1,y2,y3⟩:=F9.r0;go_wp2_with fail;rw[oH];obtain⟨e0,e1,e2,e3,hpost⟩:=F9.Lb HC.2.1 HC.2.2;refine j4 (v:=nD #[nC #[ng nH 0,ng nH 0,nk none 0 0,ng nH 0],nA false]) (by simp[kK,Tryz.results216,go_sem,e0,e1,e2,e3]) rfl ?_;rw[<-HP.out,HR.out,U5 Qu.out VQ.out HQ1.out HQ2.out];exact hpost):p:=h
theorem YE{p:Prop}(h:p:=by
 go_upto_region 9 with fail;have F6:=jH (F5 (nG #[ng nH a.kind,ng nH a.size,nk o n c,ng nH a.tail] TT));generalize w4.alloc (nG #[ng nH a.kind,ng nH a.size,nk o n c,ng nH a.tail] TT)=w5 at*;obtain⟨⟨x0,r0⟩,⟨x1,r1⟩,⟨x2,r2⟩,⟨x3,r3⟩,y0,y1,y2,y3⟩:=F6.r0;go_wp2_with fail;rw[oH];obtain⟨e0,e1,e2,e3,hpost⟩:=F6.Lb HC.2.1 HC.2.2;refine j4 (v:=nD #[nC #[ng nH 0,ng nH 0,nk none 0 0,ng nH 0],nA false]) (by simp[kK,Tryz.results216,go_sem,e0,e1,e2,e3]) rfl ?_;rw[<-HP.out,HR.out,Qt Qu.out HN.out];exact hpost):p:=h
theorem YF{p:Prop}(h:p:=by
 subst h;have hal:=(jT w4.heap.size w4).alloc (jL _) (nG #[ng nH a.kind,ng nH a.size,nk o n c,ng nH a.tail] TT);exact⟨F4.sub (pE.of hal) HC.1 (jL _) (F4.rd.below hal) OV hl4,nO.new w4 _ _,hal⟩):p:=h
theorem U6(D dep b:Nat)(s:ByteArray)(hs:s.size<=j5)(cZ:dep<=8)(bT:∀(p l:Nat) (w:jJ),p<=s.size->l<=64->sW w b s p l->jV jI 171 #[nz (some ⟨b,0,none⟩),ng nH ((dep:Int)+1)] w (tO (rd D (nP s p) l) b s w))(p l:Nat)(w:jJ)(hp:p<=s.size)(hl:l<=63)(hb:sW w b s p l):
  jV jI 216 #[nz (some ⟨b,0,none⟩),ng nH (dep:Int)] w
   (tO (if oO 125 (nP s p)then some (.node ⟨5,0,0⟩ [],nP s (p+1),l)else wV (rd D) (l+2) (nP s p) l [] 0) b s w):=by
 obtain⟨g,hg⟩:=nT w.heap.size;have bU:b<g:=hg▸hb.lt;have bV:jW (∀W,(w.alloc (nG #[ng nH 0,ng nH 0,nk none 0 0,ng nH 0] TT)).alloc (nG #[ng nH 5,ng nH 0,nk none 0 0,ng nH 0] TT)=W->Hr w b g (g+2) s p l (nk none 0 0) [] 0 W):=jH λW h=>by
  subst h;have hal:=(jT w.heap.size w).alloc (jL _) (nG #[ng nH 0,ng nH 0,nk none 0 0,ng nH 0] TT);have bE:=nO.new w #[ng nH 0,ng nH 0,nk none 0 0,ng nH 0] TT;have bW:=hb.below hal;have bX:(w.alloc (nG #[ng nH 0,ng nH 0,nk none 0 0,ng nH 0] TT)).heap.size=g+1:=nQ;generalize w.alloc (nG #[ng nH 0,ng nH 0,nk none 0 0,ng nH 0] TT)=w1 at*;have aP:=(jT w1.heap.size w1).alloc (jL _) (nG #[ng nH 5,ng nH 0,nk none 0 0,ng nH 0] TT);have bF:=nO.new w1 #[ng nH 5,ng nH 0,nk none 0 0,ng nH 0] TT;rw[bX]at bF;rw[hg]at bE;refine⟨(pE.of hal).trans (pE.of aP),bW.below aP,⟨_,Below.blk aP bE nK,rfl⟩,bF,vV.nil _ _ _ _,hp,nK,nR,nR,nQ⟩
 have hw0:w.heap.size<=g:=nK;have hb0:b<w.heap.size:=hb.lt;have bY:=jH bT;have aU:=jH hs;obtain⟨R,bK⟩:∃R,(if oO 125 (nP s p)then some (.node ⟨5,0,0⟩ [],nP s (p+1),l)else wV (rd D) (l+2) (nP s p) l [] 0)=R:=⟨_,rfl⟩;have HR:=jH bK;rw[bK];obtain⟨df,bL⟩:=nT (tO R b s w);have HP:=jH bL;rw[bL];have HC:=jH (jU bU (jU hw0 hb0));clear bK bL bT hb hs hw0 hb0;obtain⟨dx,hi,bG,bH,bI⟩:=info_parts SG;go_in;go_upto_region 2 with fail;generalize (w.alloc (nG #[ng nH 0,ng nH 0,nk none 0 0,ng nH 0] TT)).alloc (nG #[ng nH 5,ng nH 0,nk none 0 0,ng nH 0] TT)=w1 at*;have bD:=jH (bV _ rfl)
 have aV:jW (jV jI 215 #[nz (some ⟨b,0,none⟩),ng .u8 125] w1 λe w'=>e=nE (nA (oO 125 (nP s p)))/\pE b w1 w'/\sW w' b s (if oO 125 (nP s p)then p+1 else p) l):=
  jH (uB b s p l 125 w1 aU hp bD.rd)
 clear bV;cases Q:oO 125 (nP s p)with
 |true=>
  rw[Q]at aV HR;have aD:=jH (qK hp Q);clear Q;go_wp2_with fail;refine(aV).mono ?_;rintro e w2 ⟨rfl,A,C⟩;have I:=jH (bD.sub A HC.1 (jL _) (show sW w2 b s (p+1) l from by simpa using C) (by have:=aD.1;omega) nK);obtain⟨c0,c1,c2,c3,J,z3⟩:=I.c0;obtain⟨⟨x0,r0⟩,⟨x1,r1⟩,⟨x2,r2⟩,⟨x3,r3⟩,y0,y1,y2,y3⟩:=I.r0;clear A C;go_wp2_with fail;rw[oH];have N:=I.Lc HC.2.1 HC.2.2 (jL _);simp only[show((0:Nat):Int)=0 from rfl]at N;obtain⟨e0,e1,e2,e3,hpost⟩:=N;refine j4 (v:=nD #[nC #[ng nH 5,ng nH 0,nk none 0 0,ng nH 0],nA true]) (by
   simp[kK,Tryz.results216,go_sem,e0,e1,e2,e3]) rfl ?_
  rw[<-HP.out,<-HR.out];exact hpost
 |false=>
  rw[Q]at aV HR;clear Q;go_wp2_with fail;refine(aV).mono ?_;rintro e w2 ⟨rfl,A,C⟩;have I:=jH (bD.sub A HC.1 (jL _) (show sW w2 b s p l from by simpa using C) hp nK);clear A C aV bD;go_wp2_with fail
  go_loopw [7,8] (λ_ _ bM=>∃(f p l t:Nat) (v:jP) (L:List (qh TL)),jW (Hr w b g (g+2) s p l v L t bM)/\l<f/\jW (R=wV (rd D) f (nP s p) l (L.map qh.tree) t)/\L.length+l<=63/\t<=L.length/\p<=s.size)
   (λ_ _ bM=>match bM.cell? ⟨b,2,none⟩with|some v=>(kW v).toNat|none=>0)
  case atStart=>exact⟨l+2,p,l,0,nk none 0 0,[],jH I.out,nK,jH (by rw[<-HR.out];simp),nQ,nR,hp⟩
  case round=>
   clear I HR hp hl;obtain⟨f,p,l,t,v,L,F,dz,HR,bZ,cz,hp⟩:=hrel;obtain⟨f,rfl⟩:∃dh,f=dh+1:=⟨f - 1,nK⟩;have hl:l<=63:=nK;obtain⟨oa,cap,rfl⟩:=F.own.slice;obtain⟨c0,c1,c2,c3,J,z3⟩:=F.c0
   have aW:jW (jV jI 215 #[nz (some ⟨b,0,none⟩),ng .u8 63] wr λe w'=>e=nE (nA (oO 63 (nP s p)))/\pE b wr w'/\sW w' b s (if oO 63 (nP s p)then p+1 else p) l):=
    jH (uB b s p l 63 wr aU hp F.rd)
   have bJ:jW (wr.cell? ⟨b,2,none⟩=some (ng nH (l:Int))):=jH F.rd.c2;obtain⟨M,bN⟩:=nT L.length;have aF:=jH bN;have aG:jW (oO 63 (nP s p)=true->mark (nP s p) t=some (nP s (p+1),t+1)/\p<s.size):=jH λh=>⟨Hq hp h,(qK hp h).1⟩
   have ah:jW (oO 63 (nP s p)=false->mark (nP s p) t=if 0<t then none else some (nP s p,t)):=jH λh=>K9 h
   rw[bN]at bZ cz F c2;clear bN;cases Q:oO 63 (nP s p)with
   |true=>
    rw[Q]at aW;have aD:=jH (aG Q);clear Q aG ah;go_wp2_with fail;refine(aW).mono ?_;rintro e w2 ⟨rfl,A,C⟩;have I:=jH (F.sub A HC.1 (jL _) (show sW w2 b s (p+1) l from by simpa using C) (by have:=aD.2;omega) nK);clear A C c0 c1 c2 c3 J z3 F;obtain⟨c0,c1,c2,c3,J,z3⟩:=I.c0;go_upto_region 8 with fail;have aH:=jH (I.more HC.1 (jL _) HC.2.1 nK);generalize w2.setCell ⟨g+1,3,none⟩ (ng nH ((t:Int)+1))=w3 at*;have Qu:=jH aD.1;have aX:p+1<=s.size:=by have:=aD.2;omega
    have ht1:t+1<=M+1:=nK;clear c0 c1 c2 c3 J z3 I aD;have aY:=jH (bY (p+1) l w3 aX nK aH.rd);go_wp2_with fail;refine(aY).mono ?_;rintro e w4 ⟨a,o,n,c,ok,p2,l2,rfl,ai,aI,OV,hl4,hok,aj⟩;have F4:=jH (aH.sub ai HC.1 (jL _) aI OV hl4);have aZ:=jH aH.own.block;have bg:=jH aH.hB;have cK:=jH ai;clear ai aI aY;cases ok with
    |false=>
     have HN:=jH (aj rfl);clear hok aj;have F5:jW (∀o,Hr w b g (g+2) s p2 l2 (nk oa M cap) L (t+1) (w4.alloc o)):=jH λo=>by
      exact SH
     exact YE
    |true=>
     have aJ:=jH (hok rfl);clear hok aj;have F5:jW (∀W,w4.alloc (nG #[ng nH a.kind,ng nH a.size,nk o n c,ng nH a.tail] TT)=W->Hr w b g (g+2) s p2 l2 (nk oa M cap) L (t+1) W/\nO W w4.heap.size #[ng nH a.kind,ng nH a.size,nk o n c,ng nH a.tail] TT/\jS w4.heap.size w4 W):=jH λW h=>by
      exact YF
     go_upto_region 9 with fail;generalize w4.alloc (nG #[ng nH a.kind,ng nH a.size,nk o n c,ng nH a.tail] TT)=w5 at*;obtain⟨aK,Y,U⟩:=F5.out _ rfl;have F6:=jH aK;obtain⟨c0,c1,c2,c3,J,z3⟩:=F6.c0;obtain⟨bO,bP,bQ,bR⟩:=Y.a4;have ak:jW (∃sub,rd D (nP s (p+1)) l=some (.node a sub,nP s p2,l2)/\TL.wf a/\oh.nX w5 (λk=>g+2<=k/\(kM oa M cap).ownBlock≠some k) (nk o n c) sub):=jH (by
      obtain⟨sub,V,bS,bq⟩:=aJ.out;refine⟨sub,V,bS,bq.keep U.size (λk hk Q=>⟨?_,λe=> ?_⟩) λk hk Q=>U.block k hk⟩;.have:=bg.out;omega
      .have:=(aZ k e).2;omega)
     clear F5 aK Y U F4 aJ;obtain⟨sub,VQ,au,Z⟩:=ak.out;have VQ:=jH VQ;have aL:=jH au;have aM:=jH Z;have Y:g+2<=w5.heap.size:=F6.hB;have av:=jH F6.own;have ax:=jH (WV _ _ _ _ VQ).2.1;clear ak au Z;go_upto_region 12 with(at_builtin;refine xE (S:=oh) Dm hi bG bH bI rfl nN La rfl (.tmp 34) (.tmp 36) rfl (g+2) (nk oa M cap) L ⟨a,nk o n c,sub⟩ w5 _ rfl rfl av rfl (by have:=aF.out;omega) nN Y aL aM ?_;intro g2 ay aQ aa ae az aA;have bu:aQ.cell? ⟨g+1,2,none⟩=some (nk oa M cap):=(ae.cell (p:=⟨g+1,2,none⟩) (show g+1<g+2 by omega)).trans c2;have bz:aQ.frozen? ⟨g+1,2,none⟩=false:=(ae.frozen (p:=⟨g+1,2,none⟩) (show g+1<g+2 by omega)).trans J)
     have aB:=jH (F6.grown HC.1 (jL _) HC.2.1 (by have:=aF.out;omega) aa ae az aA);generalize aQ.setCell ⟨g+1,2,none⟩ (nk (some ⟨g2,0,none⟩) (L.length+1) ay)=aR at*;have aC:jW ((L++[(⟨a,nk o n c,sub⟩:qh TL)]).map qh.tree=L.map qh.tree++[.node a sub]):=jH (by simp[qh.tree]);have aN:jW ((L++[(⟨a,nk o n c,sub⟩:qh TL)]).length=M+1):=jH (by rw[jY,aF.out];rfl);obtain⟨aS,aO⟩:∃aS,L++[(⟨a,nk o n c,sub⟩:qh TL)]=aS:=⟨_,rfl⟩;rw[aO]at aC aN aB;have bA:=nL.wH (nL.node a sub);have bB:l2<l:=by have:=ax.out;simp only at this;omega
     clear bu bz aa ae az aA c0 c1 c2 c3 J z3 bO bP bQ bR av aM aL aO bA ax;rw[aF.out]at aB
     have af:jW (jV jI 215 #[nz (some ⟨b,0,none⟩),ng .u8 125] aR λe w'=>e=nE (nA (oO 125 (nP s p2)))/\pE b aR w'/\sW w' b s (if oO 125 (nP s p2)then p2+1 else p2) l2):=
      jH (uB b s p2 l2 125 aR aU OV aB.rd)
     have bC:=jH (λh=>qK (c:=125) (s:=s) (p:=p2) OV h);have aT:=jH (λh=>qK (c:=44) (s:=s) (p:=p2) OV h);cases E:oO 125 (nP s p2)with
     |true=>
      rw[E]at af;have HQ1:=jH (bC E);clear E;go_wp2_with fail;refine(af).mono ?_;rintro e ag ⟨rfl,O,Iz⟩;have F8:=jH (aB.sub O HC.1 (jL _) (show sW ag b s (p2+1) l2 from by simpa using Iz) (by have:=HQ1.1;omega) nK);clear O Iz;obtain⟨c0,c1,c2,c3,J,z3⟩:=F8.c0;obtain⟨⟨x0,r0⟩,⟨x1,r1⟩,⟨x2,r2⟩,⟨x3,r3⟩,y0,y1,y2,y3⟩:=F8.r0;rw[aF.out];go_wp2_with fail;rw[oH];have N:=F8.Lc HC.2.1 HC.2.2 (jL _);try simp only[show((0:Nat):Int)=0 from rfl]at N
      obtain⟨e0,e1,e2,e3,hpost⟩:=N;refine j4 (v:=nD #[nC #[ng nH 5,ng nH 0,nk (some ⟨g2,0,none⟩) (M+1) ay,ng nH ((t:Int)+1)],nA true]) (by simp[kK,Tryz.results216,go_sem]at e0 e1 e2 e3⊢;simp[go_sem,e0,e1,e2,e3]) rfl ?_;have V:=VQ.out;rw[HQ1.2]at V;rw[<-HP.out,HR.out,NW Qu.out V,<-aC.out];exact hpost
     |false=>
      rw[E]at af;have HQ1:=jH E;clear E;go_wp2_with fail;refine(af).mono ?_;rintro e ag ⟨rfl,O,Iz⟩;have F8:=jH (aB.sub O HC.1 (jL _) (show sW ag b s p2 l2 from by simpa using Iz) OV nK);clear O Iz
      have CP3:jW (jV jI 215 #[nz (some ⟨b,0,none⟩),ng .u8 44] ag λe w'=>e=nE (nA (oO 44 (nP s p2)))/\pE b ag w'/\sW w' b s (if oO 44 (nP s p2)then p2+1 else p2) l2):=
       jH (uB b s p2 l2 44 ag aU OV F8.rd)
      cases hq2:oO 44 (nP s p2)with
      |true=>
       rw[hq2]at CP3;have HQ2:=jH (aT hq2);clear hq2;go_wp2_with fail;refine(CP3).mono ?_;rintro e w9 ⟨rfl,hu9,Qo⟩;have F9:=jH (F8.sub hu9 HC.1 (jL _) (show sW w9 b s (p2+1) l2 from by simpa using Qo) (by have:=HQ2.1;omega) nK);clear hu9 Qo;go_wp2_with fail;have V:=VQ.out;rw[HQ2.2]at V;have bq:=aN.out;refine⟨⟨f,p2+1,l2,t+1,_,aS,jH F9.out,nK,jH (by rw[HR.out,JF Qu.out V,aC.out]),nK,nK,by have:=HQ2.1;omega⟩,?_⟩;have e1:=F9.rd.c2;have e2:=bJ.out;simp only[e1,e2,kW,Int.toNat_natCast];exact bB
      |false=>
       exact YD
   |false=>
    rw[Q]at aW;have aD:=jH (ah Q);clear Q aG ah;by_cases h0:0<t
    .have dA:decide (0<(t:Int))=true:=nQ
     have dw:=jH h0;clear h0;go_wp2_with fail;refine(aW).mono ?_;rintro e w2 ⟨rfl,A,C⟩;have I:=jH (F.sub A HC.1 (jL _) (show sW w2 b s p l from by simpa using C) hp nK);clear A C c0 c1 c2 c3 J z3 F;obtain⟨c0,c1,c2,c3,J,z3⟩:=I.c0;obtain⟨⟨x0,r0⟩,⟨x1,r1⟩,⟨x2,r2⟩,⟨x3,r3⟩,y0,y1,y2,y3⟩:=I.r0;go_wp2_with fail;rw[oH];obtain⟨e0,e1,e2,e3,hpost⟩:=I.Lb HC.2.1 HC.2.2;refine j4 (v:=nD #[nC #[ng nH 0,ng nH 0,nk none 0 0,ng nH 0],nA false]) (by simp[kK,Tryz.results216,go_sem,e0,e1,e2,e3]) rfl ?_;rw[<-HP.out,HR.out,Qs (by rw[aD.out,if_pos dw.out])];exact hpost
    .obtain rfl:t=0:=nK
     clear h0;go_wp2_with fail;refine(aW).mono ?_;rintro e w2 ⟨rfl,A,C⟩;have I:=jH (F.sub A HC.1 (jL _) (show sW w2 b s p l from by simpa using C) hp nK);clear A C c0 c1 c2 c3 J z3 F;obtain⟨c0,c1,c2,c3,J,z3⟩:=I.c0;go_upto_region 8 with fail;have Qu:jW (mark (nP s p) 0=some (nP s p,0)):=jH (by rw[aD.out];simp);have aH:=jH I.out;generalize w2=w3 at*;have aX:p<=s.size:=hp;have ht1:0<=M+1:=nK;clear c0 c1 c2 c3 J z3 I aD;have aY:=jH (bY (p) l w3 aX nK aH.rd);go_wp2_with fail;refine(aY).mono ?_;rintro e w4 ⟨a,o,n,c,ok,p2,l2,rfl,ai,aI,OV,hl4,hok,aj⟩;have F4:=jH (aH.sub ai HC.1 (jL _) aI OV hl4);have aZ:=jH aH.own.block;have bg:=jH aH.hB;have cK:=jH ai;clear ai aI aY;cases ok with
     |false=>
      have HN:=jH (aj rfl);clear hok aj;have F5:jW (∀o,Hr w b g (g+2) s p2 l2 (nk oa M cap) L (0) (w4.alloc o)):=jH λo=>by
       exact SH
      exact YE
     |true=>
      have aJ:=jH (hok rfl);clear hok aj;have F5:jW (∀W,w4.alloc (nG #[ng nH a.kind,ng nH a.size,nk o n c,ng nH a.tail] TT)=W->Hr w b g (g+2) s p2 l2 (nk oa M cap) L (0) W/\nO W w4.heap.size #[ng nH a.kind,ng nH a.size,nk o n c,ng nH a.tail] TT/\jS w4.heap.size w4 W):=jH λW h=>by
       exact YF
      go_upto_region 9 with fail;generalize w4.alloc (nG #[ng nH a.kind,ng nH a.size,nk o n c,ng nH a.tail] TT)=w5 at*;obtain⟨aK,Y,U⟩:=F5.out _ rfl;have F6:=jH aK;obtain⟨c0,c1,c2,c3,J,z3⟩:=F6.c0;obtain⟨bO,bP,bQ,bR⟩:=Y.a4;have ak:jW (∃sub,rd D (nP s (p)) l=some (.node a sub,nP s p2,l2)/\TL.wf a/\oh.nX w5 (λk=>g+2<=k/\(kM oa M cap).ownBlock≠some k) (nk o n c) sub):=jH (by
       obtain⟨sub,V,bS,bq⟩:=aJ.out;refine⟨sub,V,bS,bq.keep U.size (λk hk Q=>⟨?_,λe=> ?_⟩) λk hk Q=>U.block k hk⟩;.have:=bg.out;omega
       .have:=(aZ k e).2;omega)
      clear F5 aK Y U F4 aJ;obtain⟨sub,VQ,au,Z⟩:=ak.out;have VQ:=jH VQ;have aL:=jH au;have aM:=jH Z;have Y:g+2<=w5.heap.size:=F6.hB;have av:=jH F6.own;have ax:=jH (WV _ _ _ _ VQ).2.1;clear ak au Z;go_upto_region 12 with(at_builtin;refine xE (S:=oh) Dm hi bG bH bI rfl nN La rfl (.tmp 34) (.tmp 36) rfl (g+2) (nk oa M cap) L ⟨a,nk o n c,sub⟩ w5 _ rfl rfl av rfl (by have:=aF.out;omega) nN Y aL aM ?_;intro g2 ay aQ aa ae az aA;have bu:aQ.cell? ⟨g+1,2,none⟩=some (nk oa M cap):=(ae.cell (p:=⟨g+1,2,none⟩) (show g+1<g+2 by omega)).trans c2;have bz:aQ.frozen? ⟨g+1,2,none⟩=false:=(ae.frozen (p:=⟨g+1,2,none⟩) (show g+1<g+2 by omega)).trans J)
      have aB:=jH (F6.grown HC.1 (jL _) HC.2.1 (by have:=aF.out;omega) aa ae az aA);generalize aQ.setCell ⟨g+1,2,none⟩ (nk (some ⟨g2,0,none⟩) (L.length+1) ay)=aR at*;have aC:jW ((L++[(⟨a,nk o n c,sub⟩:qh TL)]).map qh.tree=L.map qh.tree++[.node a sub]):=jH (by simp[qh.tree]);have aN:jW ((L++[(⟨a,nk o n c,sub⟩:qh TL)]).length=M+1):=jH (by rw[jY,aF.out];rfl);obtain⟨aS,aO⟩:∃aS,L++[(⟨a,nk o n c,sub⟩:qh TL)]=aS:=⟨_,rfl⟩;rw[aO]at aC aN aB;have bA:=nL.wH (nL.node a sub);have bB:l2<l:=by have:=ax.out;simp only at this;omega
      clear bu bz aa ae az aA c0 c1 c2 c3 J z3 bO bP bQ bR av aM aL aO bA ax;rw[aF.out]at aB
      have af:jW (jV jI 215 #[nz (some ⟨b,0,none⟩),ng .u8 125] aR λe w'=>e=nE (nA (oO 125 (nP s p2)))/\pE b aR w'/\sW w' b s (if oO 125 (nP s p2)then p2+1 else p2) l2):=
       jH (uB b s p2 l2 125 aR aU OV aB.rd)
      have bC:=jH (λh=>qK (c:=125) (s:=s) (p:=p2) OV h);have aT:=jH (λh=>qK (c:=44) (s:=s) (p:=p2) OV h);cases E:oO 125 (nP s p2)with
      |true=>
       rw[E]at af;have HQ1:=jH (bC E);clear E;go_wp2_with fail;refine(af).mono ?_;rintro e ag ⟨rfl,O,Iz⟩;have F8:=jH (aB.sub O HC.1 (jL _) (show sW ag b s (p2+1) l2 from by simpa using Iz) (by have:=HQ1.1;omega) nK);clear O Iz;obtain⟨c0,c1,c2,c3,J,z3⟩:=F8.c0;obtain⟨⟨x0,r0⟩,⟨x1,r1⟩,⟨x2,r2⟩,⟨x3,r3⟩,y0,y1,y2,y3⟩:=F8.r0;rw[aF.out];go_wp2_with fail;rw[oH];have N:=F8.Lc HC.2.1 HC.2.2 (jL _);try simp only[show((0:Nat):Int)=0 from rfl]at N
       obtain⟨e0,e1,e2,e3,hpost⟩:=N;refine j4 (v:=nD #[nC #[ng nH 5,ng nH 0,nk (some ⟨g2,0,none⟩) (M+1) ay,ng nH 0],nA true]) (by simp[kK,Tryz.results216,go_sem]at e0 e1 e2 e3⊢;simp[go_sem,e0,e1,e2,e3]) rfl ?_;have V:=VQ.out;rw[HQ1.2]at V;rw[<-HP.out,HR.out,NW Qu.out V,<-aC.out];exact hpost
      |false=>
       rw[E]at af;have HQ1:=jH E;clear E;go_wp2_with fail;refine(af).mono ?_;rintro e ag ⟨rfl,O,Iz⟩;have F8:=jH (aB.sub O HC.1 (jL _) (show sW ag b s p2 l2 from by simpa using Iz) OV nK);clear O Iz
       have CP3:jW (jV jI 215 #[nz (some ⟨b,0,none⟩),ng .u8 44] ag λe w'=>e=nE (nA (oO 44 (nP s p2)))/\pE b ag w'/\sW w' b s (if oO 44 (nP s p2)then p2+1 else p2) l2):=
        jH (uB b s p2 l2 44 ag aU OV F8.rd)
       cases hq2:oO 44 (nP s p2)with
       |true=>
        rw[hq2]at CP3;have HQ2:=jH (aT hq2);clear hq2;go_wp2_with fail;refine(CP3).mono ?_;rintro e w9 ⟨rfl,hu9,Qo⟩;have F9:=jH (F8.sub hu9 HC.1 (jL _) (show sW w9 b s (p2+1) l2 from by simpa using Qo) (by have:=HQ2.1;omega) nK);clear hu9 Qo;go_wp2_with fail;have V:=VQ.out;rw[HQ2.2]at V;have bq:=aN.out;refine⟨⟨f,p2+1,l2,0,_,aS,jH F9.out,nK,jH (by rw[HR.out,JF Qu.out V,aC.out]),nK,nK,by have:=HQ2.1;omega⟩,?_⟩;have e1:=F9.rd.c2;have e2:=bJ.out;simp only[e1,e2,kW,Int.toNat_natCast];exact bB
       |false=>
        exact YD
structure AA(w0:jJ)(b g:Nat)(s:ByteArray)(p l:Nat)(w:jJ):Prop where
 upd:pE b w0 w
 rd:sW w b s p l
 box:w.cell? ⟨g,0,none⟩=some (nz (some ⟨b,0,none⟩))
 res:∃cs,nO w (g+1) cs TT/\cs.size=4
 hp:p<=s.size
 hl:l<=64
 hg:g+2<=w.heap.size
 h0:w0.heap.size=g
 hb:b<g
theorem AA.sub{l C E:Nat}(h:AA w0 b g s p l w)(A:pE b w w')(I:sW w' b s C E)(hp:C<=s.size)(hl:E<=64):AA w0 b g s C E w':=by
 obtain⟨cs,J,N⟩:=h.res;have O:=h.hb;have hg:=h.hg;refine⟨h.upd.trans A,I,?_,⟨cs,A.blk J nK,N⟩,hp,hl,kg h.hg A.size,h.h0,h.hb⟩;rw[World.cell?_of_block (w:=w) (A.block g nK (by simpa using by omega))];exact h.box
theorem AA.drewN{l:Nat}(h:AA w0 b g s p l w)(n:Nat):AA w0 b g s p l (w.drewN n):=h.sub ((pE.refl _ _).drewN n) (h.rd.drewN n) h.hp h.hl
theorem AA.less{l:Nat}(h:AA w0 b g s p l w)(A:1<=l):AA w0 b g s p (l - 1) (w.setCell ⟨b,2,none⟩ (ng nH ((l:Int) - 1))):=by
 refine h.sub ((pE.refl _ _).set 2 _) ?_ h.hp (by have:=h.hl;omega);have:=h.rd.left (l - 1);rwa [show((l - 1:Nat):Int)=(l:Int) - 1 by omega]at this
theorem AA.next{l:Nat}(h:AA w0 b g s p l w)(A:p<s.size):AA w0 b g s (p+1) l (w.setCell ⟨b,1,none⟩ (ng nH ((p:Int)+1))):=by
 refine h.sub ((pE.refl _ _).set 1 _) ?_ nK h.hl;have:=h.rd.move (p+1);rwa [show((p+1:Nat):Int)=(p:Int)+1 by omega]at this
theorem AA.r0{l:Nat}(h:AA w0 b g s p l w):(∃x,w.cell? ⟨g+1,0,none⟩=some x)/\(∃x,w.cell? ⟨g+1,1,none⟩=some x)/\(∃x,w.cell? ⟨g+1,2,none⟩=some x)/\(∃x,w.cell? ⟨g+1,3,none⟩=some x)/\
  w.frozen? ⟨g+1,0,none⟩=false/\w.frozen? ⟨g+1,1,none⟩=false/\w.frozen? ⟨g+1,2,none⟩=false/\w.frozen? ⟨g+1,3,none⟩=false:=by
 obtain⟨⟨l⟩,A,C⟩:=h.res
 match l,C with
 |[x,y,z,u],_=>exact⟨⟨x,A.cell 0⟩,⟨y,A.cell 1⟩,⟨z,A.cell 2⟩,⟨u,A.cell 3⟩,A.free 0,A.free 1,A.free 2,A.free 3⟩
theorem AA.start{l:Nat}(I:sW w b s p l)(hp:p<=s.size)(hl:l<=64):
  ∀W,(w.alloc (nG #[nz (some ⟨b,0,none⟩)] 206)).alloc (nG #[ng nH 0,ng nH 0,nk none 0 0,ng nH 0] TT)=W->AA w b w.heap.size s p l W:=by
 rintro W rfl;have C:=(jT w.heap.size w).alloc (jL _) (nG #[nz (some ⟨b,0,none⟩)] 206);have J:=nO.new w #[nz (some ⟨b,0,none⟩)] 206;have N:=I.below C;have O:(w.alloc (nG #[nz (some ⟨b,0,none⟩)] 206)).heap.size=w.heap.size+1:=nR;generalize w.alloc (nG #[nz (some ⟨b,0,none⟩)] 206)=w1 at*;have A:=(jT w1.heap.size w1).alloc (jL _) (nG #[ng nH 0,ng nH 0,nk none 0 0,ng nH 0] TT);have E:=nO.new w1 #[ng nH 0,ng nH 0,nk none 0 0,ng nH 0] TT;rw[O]at E;refine⟨(pE.of C).trans (pE.of A),N.below A,(Below.blk A J nK).cell 0,⟨_,E,rfl⟩,hp,hl,nQ,rfl,I.lt⟩
theorem AA.far{l:Nat}(h:AA w0 b g s p l w){k:Nat}(hk:g+2<=k)(i:Nat)(v:jP):AA w0 b g s p l (w.setCell ⟨k,i,none⟩ v):=by
 obtain⟨cs,A,C⟩:=h.res;have I:=h.hb;have E:=h.h0;refine⟨h.upd.Bp (a:=⟨k,i,none⟩) (show w0.heap.size<=k by omega) v,nO.setOther h.rd nQ v,?_,⟨cs,A.setOther nQ v,C⟩,h.hp,h.hl,by simpa [kC]using h.hg,E,h.hb⟩;rw[World.cell?_of_block (w:=w) (j6 _ _ _ _ nQ)];exact h.box
theorem AA.alloc{l:Nat}(h:AA w0 b g s p l w)(cs:Array jP)(t:ko):∀W,w.alloc (nG cs t)=W->AA w0 b g s p l W/\nO W w.heap.size cs t/\jS w.heap.size w W:=by
 rintro W rfl;have A:=(jT w.heap.size w).alloc (jL _) (nG cs t);exact⟨h.sub (pE.of A) (h.rd.below A) h.hp h.hl,nO.new w _ _,A⟩
theorem AA.fin{l:Nat}(h:AA w0 b g s p l w)(a:TL)(o:Option l5)(n c:Nat)(ok:Bool)(N:ok=true->∃sub,R=some (.node a sub,nP s p,l)/\TL.wf a/\oh.nX w (λk=>g+2<=k) (nk o n c) sub)(O:ok=false->R=none){A B C D:jP}(Q:A=ng nH a.kind)(E:B=ng nH a.size)(U:C=nk o n c)(V:D=ng nH a.tail):
  (qi w (g+1) A B C D).cell? ⟨g+1,0,none⟩=some A/\(qi w (g+1) A B C D).cell? ⟨g+1,1,none⟩=some B/\(qi w (g+1) A B C D).cell? ⟨g+1,2,none⟩=some C/\(qi w (g+1) A B C D).cell? ⟨g+1,3,none⟩=some D/\
   tO R b s w0 (nE (nD #[nC #[A,B,C,D],nA ok])) (qi w (g+1) A B C D):=by
 subst Q E U V;obtain⟨cs,I,J⟩:=h.res;have hB:=wK (a:=ng nH a.kind) (b:=ng nH a.size) (c:=nk o n c) (d:=ng nH a.tail) I J;have af:=h.h0;have ae:=h.hb;refine⟨hB.cell 0,hB.cell 1,hB.cell 2,hB.cell 3,a,o,n,c,ok,p,l,rfl,Dk h.upd nK,yX h.rd nK,h.hp,h.hl,λe=> ?_,O⟩;obtain⟨sub,Y,Z,aa⟩:=N e;exact⟨sub,Y,Z,(wJ aa (λk hk=>by omega)).keep (jL _) (λk _ hk=>by omega) λ_ _ _=>rfl⟩
theorem SI{p:Prop}(h:p:=by
 have e1:IntKind.i64.min= -9223372036854775808:=rfl;have e2:IntKind.i64.max=9223372036854775807:=rfl;simp[Lit.wf,e1,e2];omega):p:=h
theorem Ht{k:Int}(h0:0<=k)(A:k<=65536):(lJ nH k).wf=true:=by
 exact SI
theorem JG{k z t:Int}(h:(0<=k/\k<=65536)/\(0<=z/\z<=65536)/\(0<=t/\t<=65536)):TL.wf ⟨k,z,t⟩:=⟨Ht h.1.1 h.1.2,Ht h.2.1.1 h.2.1.2,Ht h.2.2.1 h.2.2.2⟩
theorem Dn(S:Shape TL)(w:jJ)(Q:Nat->Prop):S.nX w Q (nk none 0 0) []:=⟨none,0,rfl,jL _,kI _,λh=>absurd h nR⟩
theorem NZ{k:Nat}{a:TL}{o:Option l5}{c:Nat}{sub:List (nL TL)}(hB:nO w k #[ng nH a.kind,ng nH a.size,nk o n c,ng nH a.tail] TT)(A:TL.wf a)(hs:oh.nX w Q (nk o n c) sub)(C:Q k):oh.nX w Q (nk (some ⟨k,0,none⟩) 1 1) [.node a sub]:=by
 refine⟨some ⟨k,0,none⟩,1,rfl,jL _,by unfold j5;decide,λ_=>⟨k,0,rfl,hB.lt,C,?_⟩⟩;simp only[Shape.qy,Shape.rA,and_true];refine⟨A,nk o n c,λj E=> ?_,hs⟩;have I:j<4:=E;rw[hB.cell];have:j=0\/j=1\/j=2\/j=3:=nK;rcases this with rfl|rfl|rfl|rfl<;>rfl
theorem a1G(D:Nat)(s:ByteArray)(p l:Nat)(hp:p<s.size)(hl:1<=l)(b:UInt8)(hb:s[p]=b):rd (D+1) (nP s p) l=
  if b=117 then(num 64 (nP s (p+1))).bind λq=>if q.1 % 8=0 then some (.node ⟨1,(q.1/8:Nat),0⟩ [],q.2,l - 1)else none
  else if b=98 then(num 65536 (nP s (p+1))).bind λq=>some (.node ⟨2,q.1,0⟩ [],q.2,l - 1)
  else if b=115 then(num 65536 (nP s (p+1))).bind λq=>some (.node ⟨3,q.1,0⟩ [],q.2,l - 1)
  else if b=91 then(rd D (nP s (p+1)) (l - 1)).bind λy=>match y.2.1 with
    |58::r2=>(num 1024 r2).bind λq=>match q.2 with
     |93::r4=>some (.node ⟨4,q.1,0⟩ [y.1],r4,y.2.2)
     |_=>none
    |_=>none
  else if b=123 then(if oO 125 (nP s (p+1))then some (.node ⟨5,0,0⟩ [],nP s (p+2),l - 1)else wV (rd D) (l+1) (nP s (p+1)) (l - 1) [] 0)
  else none:=by
 rw[qU hp,hb];simp only[rd];rw[if_neg nK];split;.rfl
 split;.rfl
 split;.rfl
 split;.rfl
 split
 .cases A:oO 125 (nP s (p+1))with
  |true=>
   obtain⟨E,C⟩:=qK nK A;rw[C];rfl
  |false=>
   split;.rename_i r e;exact(sU A e).elim
   .simp
 .rfl
theorem a4k(D:Nat)(s:ByteArray)(p l:Nat)(hp:p<=s.size)(h:l=0\/p=s.size):rd (D+1) (nP s p) l=none:=by
 simp only[rd];split;.rfl
 .rcases h with h|h
  .omega
  .rw[si nK]
theorem Ld{p:Prop}(h:p:=by
 refine j4 (v:=nD #[nC #[ng nH 0,ng nH 0,nk none 0 0,ng nH 0],nA false]) (by simp[kK,Tryz.results171,go_sem,e0,e1,e2,e3]) rfl ?_;rw[<-HP.out];exact hpost):p:=h
theorem a1H(b:Nat)(s:ByteArray)(hs:s.size<=j5):∀(D dep p l:Nat)(w:jJ),dep+D=9->p<=s.size->l<=64->sW w b s p l->
  jV jI 171 #[nz (some ⟨b,0,none⟩),ng nH (dep:Int)] w (tO (rd D (nP s p) l) b s w):=by
 intro D;induction D with
 |zero=>
  intro dep p l w hd hp hl hb;have fP:decide (8<(dep:Int))=true:=nQ;have bW:=jH (AA.start hb hp hl);have dB:jW (rd 0 (nP s p) l=none):=jH rfl;obtain⟨g,hg⟩:=nT w.heap.size;rw[hg]at bW;have dG:=jH hd;obtain⟨R,dC⟩:=nT (rd 0 (nP s p) l);rw[dC]at dB⊢;obtain⟨fQ,bX⟩:=nT (tO R b s w);have HP:=jH bX;rw[bX];clear hb hd dC bX;go_in;go_upto_region 1 with fail;generalize (w.alloc (nG #[nz (some ⟨b,0,none⟩)] 206)).alloc (nG #[ng nH 0,ng nH 0,nk none 0 0,ng nH 0] TT)=w1 at*;have G:=jH (bW _ rfl);obtain⟨⟨af,r0⟩,⟨ag,r1⟩,⟨ah,r2⟩,⟨ai,r3⟩,aj,ak,y2,au⟩:=G.r0;go_quiet (fail);go_wp2_with fail;rw[oH];obtain⟨e0,e1,e2,e3,hpost⟩:=(G.drewN nq).fin (A:=ng nH 0) (B:=ng nH 0) (C:=nk none 0 0) (D:=ng nH 0) ⟨0,0,0⟩ none 0 0 false (λh=>by cases h) (λ_=>dB.out) rfl rfl rfl rfl;exact Ld
 |succ D gq=>
  intro dep p l w hd hp hl hb;have fP:decide (8<(dep:Int))=false:=nQ;have bW:=jH (AA.start hb hp hl);obtain⟨g,hg⟩:=nT w.heap.size;rw[hg]at bW;have dG:=jH hd;have bY:dep<=8:=nK;have eD:=jH gq;have bF:=jH hs;obtain⟨R,dC⟩:=nT (rd (D+1) (nP s p) l);have dB:=jH dC;have bZ:=jH (a4k D s p l hp);rw[dC];obtain⟨fQ,bX⟩:=nT (tO R b s w);have HP:=jH bX;rw[bX];have eU:s.size<=9223372036854775807:=by unfold j5 at hs;omega
  clear hb hd dC bX gq hs;by_cases bG:l=0\/p=s.size
  .have cz:jW (R=none):=jH (by rw[<-dB.out];exact bZ bG)
   have e1:((l:Int)==0)=decide (l=0):=by rw[Bool.eq_iff_iff];simp
   have e2:((p:Int)==s.size)=decide (p=s.size):=by rw[Bool.eq_iff_iff];simp;omega
   have eF:(((l:Int)==0)=true)\/(((l:Int)==0)=false/\((p:Int)==s.size)=true):=by
    rcases bG with h|h
    .exact .inl (by rw[e1];simp[h])
    .by_cases h0:l=0
     .exact .inl (by rw[e1];simp[h0])
     .exact .inr ⟨by rw[e1];simp[h0],by rw[e2];simp[h]⟩
   clear bG bZ e1 e2;go_in;go_upto_region 1 with fail;generalize (w.alloc (nG #[nz (some ⟨b,0,none⟩)] 206)).alloc (nG #[ng nH 0,ng nH 0,nk none 0 0,ng nH 0] TT)=w1 at*;have G:=jH (bW _ rfl);obtain⟨⟨af,r0⟩,⟨ag,r1⟩,⟨ah,r2⟩,⟨ai,r3⟩,aj,ak,y2,au⟩:=G.r0;have b0:=G.box;obtain⟨c0,c1,c2⟩:=G.rd.a3;rcases eF with fT|⟨fT,gu⟩
   all_goals
    go_quiet (fail);go_wp2_with fail;rw[oH];obtain⟨e0,e1,e2,e3,hpost⟩:=(G.drewN nq).fin (A:=ng nH 0) (B:=ng nH 0) (C:=nk none 0 0) (D:=ng nH 0) ⟨0,0,0⟩ none 0 0 false (λh=>by cases h) (λ_=>cz.out) rfl rfl rfl rfl;refine j4 (v:=nD #[nC #[ng nH 0,ng nH 0,nk none 0 0,ng nH 0],nA false]) (by simp[kK,Tryz.results171,go_sem,e0,e1,e2,e3]) rfl ?_;rw[<-HP.out];exact hpost
  .have dw:1<=l:=nK
   have eX:p<s.size:=nK;have fT:((l:Int)==0)=false:=nQ;have gu:((p:Int)==s.size)=false:=nQ;have dx:=jH (a1G D s p l eX dw s[p] rfl);clear bG bZ;go_in;go_upto_region 1 with fail;generalize (w.alloc (nG #[nz (some ⟨b,0,none⟩)] 206)).alloc (nG #[ng nH 0,ng nH 0,nk none 0 0,ng nH 0] TT)=w1 at*;have G:=jH (bW _ rfl);have b0:=G.box;obtain⟨c0,c1,c2⟩:=G.rd.a3;have f2:=nO.free G.rd 2;clear bW;go_quiet (fail);go_upto_region 4 with fail;refine uV (λW=>AA w b g s p (l - 1) W) ((G.drewN _).less dw) ?_;intro w2 eY;have dH:=jH eY;clear G b0 c0 c1 c2 f2 eY;have b0:=dH.box;obtain⟨c0,c1⟩:=dH.rd.a2;have f1:=nO.free dH.rd 1;go_quiet (fail);go_upto_region 7 with fail;refine uV (λW=>AA w b g s (p+1) (l - 1) W) ((dH.drewN _).next eX) ?_;intro w3 eZ;have U:=jH eZ;obtain⟨q,aC⟩:=nT (p+1);obtain⟨m,eG⟩:=nT (l - 1);have fU:=jH aC;have fV:=jH eG;have dI:m<=63:=nK;have aP:q<=s.size:=nK;rw[aC,eG]at U;have I:=jH (dB.symm.trans dx);rw[aC,eG]at I;clear dH b0 c0 c1 f1 eZ aC eG dx dB fT gu;have b0:=U.box;obtain⟨⟨af,r0⟩,⟨ag,r1⟩,⟨ah,r2⟩,⟨ai,r3⟩,aj,ak,y2,au⟩:=U.r0;have hk:jW (∀c:UInt8,s[p]≠c->((s[p].toNat:Int)==(c.toNat:Int))=false):=jH λc h=>by
    rw[beq_eq_false_iff_ne];intro iF;exact h (lU.1 nK)
   by_cases aJ:s[p]=117
   .have dD:((s[p].toNat:Int)==117)=true:=by rw[aJ];rfl
    have O:=jH I.out;rw[if_pos aJ]at O;have aQ:jW (jV jI 213 #[ng nH 1,ng nH 64,nz (some ⟨g,0,none⟩)] w3 (yD 1 b s q m 64 w3)):=jH (Dl 1 b g s q m 64 w3 bF aP nN U.rd U.box);clear aJ I hk;go_wp2_with fail;refine(aQ).mono ?_;rintro e w4 ⟨n,ok,V,rfl,Y,Z,aa,fq,hok,Q⟩;have aA:=jH (U.sub Y Z aa nK);have J:=jH (jU hok Q);have aZ:=jH (aA.alloc #[ng nH 1,ng nH (n:Int),nk none 0 0,ng nH 0] TT);clear Y Z hok Q aQ U b0 af r0 ag r1 ah r2 ai r3 aj ak y2 au;go_upto_region 10 with fail;generalize w4.alloc (nG #[ng nH 1,ng nH (n:Int),nk none 0 0,ng nH 0] TT)=w5 at*;obtain⟨bg,az,_⟩:=aZ.out _ rfl;have av:=jH bg;have bq:=jH az;obtain⟨⟨af,r0⟩,⟨ag,r1⟩,⟨ah,r2⟩,⟨ai,r3⟩,aj,ak,y2,au⟩:=av.r0;have cK:=az.c0;have bH:=az.c1;have cZ:=az.c2;have df:=az.c3;have gy:=az.free 1;have aR:g+2<=w4.heap.size:=aA.hg;clear bg az aZ;cases ok with
    |true=>
     go_upto_region 12 with fail;refine uV (λW=>AA w b g s V m W/\nO W w4.heap.size #[ng nH 1,ng nH ((n/8:Nat):Int),nk none 0 0,ng nH 0] TT) ⟨av.far aR _ _,by simpa using bq.set 1 (ng nH ((n/8:Nat):Int))⟩ ?_;rintro bI ⟨bO,bP⟩;have aG:=jH bO;clear cK bH cZ df gy af r0 ag r1 ah r2 ai r3 aj ak y2 au;obtain⟨⟨af,r0⟩,⟨ag,r1⟩,⟨ah,r2⟩,⟨ai,r3⟩,aj,ak,y2,au⟩:=aG.r0;obtain⟨cK,bH,cZ,df⟩:=bP.a4;obtain⟨nd,aS⟩:=nT (n/8);rw[aS]at bH;have fu:=jH aS;have fZ:nd<=64:=nK;clear bO bP aS;go_wp2_with fail;have aD:((n:Int) % 8==0)=true->∃sub,R=some (.node ⟨1,(nd:Int),0⟩ sub,nP s V,m)/\TL.wf ⟨1,(nd:Int),0⟩/\oh.nX bI (λk=>g+2<=k) (nk none 0 0) sub:=λh=>by
      have aB:=J.1 (by trivial);refine⟨[],?_,JG nK,Dn _ _ _⟩;rw[O.out,aB,kF,if_pos (by simp at h;omega),fu.out]
     have E:((n:Int) % 8==0)=false->R=none:=λh=>by
      have aB:=J.1 (by trivial);rw[O.out,aB,kF,if_neg (by simp at h;omega)]
     rw[oH];obtain⟨e0,e1,e2,e3,hpost⟩:=aG.fin (A:=ng nH 1) (B:=ng nH (nd:Int)) (C:=nk none 0 0) (D:=ng nH 0) ⟨1,(nd:Int),0⟩ none 0 0 ((n:Int) % 8==0) aD E rfl rfl rfl rfl;refine j4 (v:=nD #[nC #[ng nH 1,ng nH (nd:Int),nk none 0 0,ng nH 0],nA ((n:Int) % 8==0)]) (by simp[kK,Tryz.results171,go_sem,e0,e1,e2,e3]) rfl ?_;rw[<-HP.out];exact hpost
    |false=>
     go_upto_region 12 with fail;refine uV (λW=>AA w b g s V m W/\nO W w4.heap.size #[ng nH 1,ng nH ((n/8:Nat):Int),nk none 0 0,ng nH 0] TT) ⟨av.far aR _ _,by simpa using bq.set 1 (ng nH ((n/8:Nat):Int))⟩ ?_;rintro bI ⟨bO,bP⟩;have aG:=jH bO;clear cK bH cZ df gy af r0 ag r1 ah r2 ai r3 aj ak y2 au;obtain⟨⟨af,r0⟩,⟨ag,r1⟩,⟨ah,r2⟩,⟨ai,r3⟩,aj,ak,y2,au⟩:=aG.r0;obtain⟨cK,bH,cZ,df⟩:=bP.a4;obtain⟨nd,aS⟩:=nT (n/8);rw[aS]at bH;have fu:=jH aS;have fZ:nd<=64:=nK;clear bO bP aS;go_wp2_with fail;have E:R=none:=by rw[O.out,J.2 (by trivial)];rfl
     rw[oH];obtain⟨e0,e1,e2,e3,hpost⟩:=aG.fin (A:=ng nH 1) (B:=ng nH (nd:Int)) (C:=nk none 0 0) (D:=ng nH 0) ⟨1,(nd:Int),0⟩ none 0 0 false (λh=>by cases h) (λ_=>E) rfl rfl rfl rfl;refine j4 (v:=nD #[nC #[ng nH 1,ng nH (nd:Int),nk none 0 0,ng nH 0],nA false]) (by simp[kK,Tryz.results171,go_sem,e0,e1,e2,e3]) rfl ?_;rw[<-HP.out];exact hpost
   have dJ:((s[p].toNat:Int)==117)=false:=hk.out 117 aJ;have bJ:=jH I.out;rw[if_neg aJ]at bJ;clear aJ I;have I:=bJ;clear bJ;by_cases bu:s[p]=98
   .have dD:((s[p].toNat:Int)==98)=true:=by rw[bu];rfl
    have O:=jH I.out;rw[if_pos bu]at O;have aQ:jW (jV jI 213 #[ng nH 2,ng nH 65536,nz (some ⟨g,0,none⟩)] w3 (yD 2 b s q m 65536 w3)):=jH (Dl 2 b g s q m 65536 w3 bF aP nN U.rd U.box);clear bu I hk;go_wp2_with fail;refine(aQ).mono ?_;rintro e w4 ⟨n,ok,V,rfl,Y,Z,aa,fq,hok,Q⟩;have aA:=jH (U.sub Y Z aa nK);have J:=jH (jU hok Q);clear Y Z hok Q aQ U b0 af r0 ag r1 ah r2 ai r3 aj ak y2 au;obtain⟨⟨af,r0⟩,⟨ag,r1⟩,⟨ah,r2⟩,⟨ai,r3⟩,aj,ak,y2,au⟩:=aA.r0;go_wp2_with fail;have aD:ok=true->∃sub,R=some (.node ⟨2,(n:Int),0⟩ sub,nP s V,m)/\TL.wf ⟨2,(n:Int),0⟩/\oh.nX w4 (λk=>g+2<=k) (nk none 0 0) sub:=λh=>by
     refine⟨[],?_,JG nK,Dn _ _ _⟩;rw[O.out,J.1 h];rfl
    have E:ok=false->R=none:=λh=>by rw[O.out,J.2 h];rfl
    rw[oH];obtain⟨e0,e1,e2,e3,hpost⟩:=aA.fin (A:=ng nH 2) (B:=ng nH (n:Int)) (C:=nk none 0 0) (D:=ng nH 0) ⟨2,(n:Int),0⟩ none 0 0 ok aD E rfl rfl rfl rfl;refine j4 (v:=nD #[nC #[ng nH 2,ng nH (n:Int),nk none 0 0,ng nH 0],nA ok]) (by simp[kK,Tryz.results171,go_sem,e0,e1,e2,e3]) rfl ?_;rw[<-HP.out];exact hpost
   have fw:((s[p].toNat:Int)==98)=false:=hk.out 98 bu;have aT:=jH I.out;rw[if_neg bu]at aT;clear bu I;have I:=aT;clear aT;by_cases aK:s[p]=115
   .have dD:((s[p].toNat:Int)==115)=true:=by rw[aK];rfl
    have O:=jH I.out;rw[if_pos aK]at O;have aQ:jW (jV jI 213 #[ng nH 3,ng nH 65536,nz (some ⟨g,0,none⟩)] w3 (yD 3 b s q m 65536 w3)):=jH (Dl 3 b g s q m 65536 w3 bF aP nN U.rd U.box);clear aK I hk;go_wp2_with fail;refine(aQ).mono ?_;rintro e w4 ⟨n,ok,V,rfl,Y,Z,aa,fq,hok,Q⟩;have aA:=jH (U.sub Y Z aa nK);have J:=jH (jU hok Q);clear Y Z hok Q aQ U b0 af r0 ag r1 ah r2 ai r3 aj ak y2 au;obtain⟨⟨af,r0⟩,⟨ag,r1⟩,⟨ah,r2⟩,⟨ai,r3⟩,aj,ak,y2,au⟩:=aA.r0;go_wp2_with fail;have aD:ok=true->∃sub,R=some (.node ⟨3,(n:Int),0⟩ sub,nP s V,m)/\TL.wf ⟨3,(n:Int),0⟩/\oh.nX w4 (λk=>g+2<=k) (nk none 0 0) sub:=λh=>by
     refine⟨[],?_,JG nK,Dn _ _ _⟩;rw[O.out,J.1 h];rfl
    have E:ok=false->R=none:=λh=>by rw[O.out,J.2 h];rfl
    rw[oH];obtain⟨e0,e1,e2,e3,hpost⟩:=aA.fin (A:=ng nH 3) (B:=ng nH (n:Int)) (C:=nk none 0 0) (D:=ng nH 0) ⟨3,(n:Int),0⟩ none 0 0 ok aD E rfl rfl rfl rfl;refine j4 (v:=nD #[nC #[ng nH 3,ng nH (n:Int),nk none 0 0,ng nH 0],nA ok]) (by simp[kK,Tryz.results171,go_sem,e0,e1,e2,e3]) rfl ?_;rw[<-HP.out];exact hpost
   have dK:((s[p].toNat:Int)==115)=false:=hk.out 115 aK;have bK:=jH I.out;rw[if_neg aK]at bK;clear aK I;have I:=bK;clear bK;by_cases bz:s[p]=91
   .have dD:((s[p].toNat:Int)==91)=true:=by rw[bz];rfl
    have O:=jH I.out;rw[if_pos bz]at O;have gz:jW (jV jI 171 #[nz (some ⟨b,0,none⟩),ng nH ((dep:Int)+1)] w3 (tO (rd D (nP s q) m) b s w3)):=jH (eD (dep+1) q m w3 (by have:=dG.out;omega) aP nK U.rd);clear bz I hk;have bQ:=jH U.hg;go_wp2_with fail;refine(gz).mono ?_;rintro e w4 ⟨a,o,n,c,ok,V,ax,rfl,Y,Z,aa,aH,hok,Q⟩;have aA:=jH (U.sub Y Z aa aH);have J:=jH (jU hok Q);have aZ:=jH (aA.alloc #[ng nH a.kind,ng nH a.size,nk o n c,ng nH a.tail] TT);clear Y Z hok Q gz U b0 af r0 ag r1 ah r2 ai r3 aj ak y2 au;go_upto_region 19 with fail;generalize w4.alloc (nG #[ng nH a.kind,ng nH a.size,nk o n c,ng nH a.tail] TT)=w5 at*;obtain⟨bg,az,bL⟩:=aZ.out _ rfl;have av:=jH bg;have bq:=jH az;have b0:=av.box;have aR:g+2<=w4.heap.size:=aA.hg;cases ok with
    |false=>
     clear bg az aZ bL;obtain⟨⟨af,r0⟩,⟨ag,r1⟩,⟨ah,r2⟩,⟨ai,r3⟩,aj,ak,y2,au⟩:=av.r0;have E:R=none:=by rw[O.out,J.2 (by trivial)];rfl
     have cz:=jH E;clear E;go_wp2_with fail;rw[oH];obtain⟨e0,e1,e2,e3,hpost⟩:=av.fin (A:=ng nH 0) (B:=ng nH 0) (C:=nk none 0 0) (D:=ng nH 0) ⟨0,0,0⟩ none 0 0 false (λh=>by cases h) (λ_=>cz.out) rfl rfl rfl rfl;exact Ld
    |true=>
     have dL:jW (∃sub,rd D (nP s q) m=some (.node a sub,nP s V,ax)/\TL.wf a/\oh.nX w5 (λk=>g+2<=k/\k<w4.heap.size) (nk o n c) sub):=jH (by
      obtain⟨sub,aB,bR,bM⟩:=J.1 (by trivial);exact⟨sub,aB,bR,bM.keep bL.size (λk hk aC=>⟨kg bQ aC,hk⟩) λk hk aC=>bL.block k hk⟩)
     clear bg az aZ bL J;obtain⟨sub,aM,dM,dz⟩:=dL.out;have aM:=jH aM;have dN:=jH dM;have dO:=jH dz;clear dL dM dz
     have dE:jW (jV jI 215 #[nz (some ⟨b,0,none⟩),ng .u8 58] w5 λe w'=>e=nE (nA (oO 58 (nP s V)))/\pE b w5 w'/\sW w' b s (if oO 58 (nP s V)then V+1 else V) ax):=
      jH (uB b s V ax 58 w5 bF aa av.rd)
     have bA:=jH (λh=>qK (c:=58) (s:=s) (p:=V) aa h);cases bB:oO 58 (nP s V)with
     |false=>
      rw[bB]at dE;have aN:=jH bB;clear bB;have E:R=none:=by
       rw[O.out,aM.out];simp only[kF];split;.rename_i r2 e2;exact(sU aN e2).elim
       .rfl
      have cz:=jH E;clear E;go_wp2_with fail;refine(dE).mono ?_;rintro e bI ⟨rfl,aI,bS⟩;have aG:=jH (av.sub aI (show sW bI b s V ax from by simpa using bS) aa aH);clear aI bS dE b0;obtain⟨⟨af,r0⟩,⟨ag,r1⟩,⟨ah,r2⟩,⟨ai,r3⟩,aj,ak,y2,au⟩:=aG.r0;go_wp2_with fail;rw[oH];obtain⟨e0,e1,e2,e3,hpost⟩:=aG.fin (A:=ng nH 0) (B:=ng nH 0) (C:=nk none 0 0) (D:=ng nH 0) ⟨0,0,0⟩ none 0 0 false (λh=>by cases h) (λ_=>cz.out) rfl rfl rfl rfl;exact Ld
     |true=>
      rw[bB]at dE;have aN:=jH (bA bB);clear bB bA;go_wp2_with fail;refine(dE).mono ?_;rintro e bI ⟨rfl,aI,bS⟩;have dA:V+1<=s.size:=by have:=aN.1;omega
      have aG:=jH (av.sub aI (show sW bI b s (V+1) ax from by simpa using bS) dA aH);have dP:=jH (aI.blk bq (by have:=av.hb;omega));have dQ:=jH (Shape.nX.keep dO aI.size (λ_ _ h=>h) λk hk aC=>aI.block k hk (by simpa using by have:=av.hb;omega));have fA:=jH aI.size;have aQ:jW (jV jI 213 #[ng nH 4,ng nH 1024,nz (some ⟨g,0,none⟩)] bI (yD 4 b s (V+1) ax 1024 bI)):=jH (Dl 4 b g s (V+1) ax 1024 bI bF dA nN aG.rd aG.box);clear aI bS dE b0;go_wp2_with fail;refine(aQ).mono ?_;rintro e ay ⟨ae,gB,aU,rfl,bC,fB,bT,fC,hok,Q⟩;have eH:=jH (aG.sub bC fB bT aH);have J:=jH (jU hok Q);have bU:=jH (bC.blk dP (by have:=av.hb;omega));have dR:=jH (Shape.nX.keep dQ bC.size (λ_ _ h=>h) λk hk aC=>bC.block k hk (by simpa using by have:=av.hb;omega));have fD:=jH bC.size;have fE:=jH (eH.alloc #[ng nH 4,ng nH (ae:Int),nk none 0 0,ng nH 0] TT);clear bC fB hok Q aQ;go_upto_region 22 with fail;generalize ay.alloc (nG #[ng nH 4,ng nH (ae:Int),nk none 0 0,ng nH 0] TT)=N at*;obtain⟨fF,bV,bN⟩:=fE.out _ rfl;have fG:=jH (Below.blk bN bU bU.lt);have fH:=jH (Shape.nX.keep dR bN.size (λ_ _ h=>h) λk hk _=>bN.block k hk);have fI:=jH bV;have gD:=jH fF;have dS:ay.heap.size<N.heap.size:=bV.lt;have dU:w4.heap.size<ay.heap.size:=bU.lt;obtain⟨cK,bH,cZ,df⟩:=fG.a4;have ik:=bV.c2;have iq:=bV.free 2;have dV:g+2<=ay.heap.size:=eH.hg
      have fJ:jW (∀W,(N.setCell ⟨ay.heap.size,2,none⟩ (nk (some ⟨N.heap.size,0,none⟩) 1 1)).alloc (nG #[ng nH a.kind,ng nH a.size,nk o n c,ng nH a.tail] TT)=W->
        (AA w b g s aU ax W/\nO W ay.heap.size #[ng nH 4,ng nH (ae:Int),nk (some ⟨N.heap.size,0,none⟩) 1 1,ng nH 0] TT/\oh.nX W (λk=>g+2<=k) (nk (some ⟨N.heap.size,0,none⟩) 1 1) [.node a sub])):=jH λW h=>by
       have iw:=gD.far dV 2 (nk (some ⟨N.heap.size,0,none⟩) 1 1);have gF:nO (N.setCell ⟨ay.heap.size,2,none⟩ (nk (some ⟨N.heap.size,0,none⟩) 1 1)) ay.heap.size #[ng nH 4,ng nH (ae:Int),nk (some ⟨N.heap.size,0,none⟩) 1 1,ng nH 0] TT:=by simpa using fI.set 2 (nk (some ⟨N.heap.size,0,none⟩) 1 1)
       have iy:=Shape.nX.keep (w':=N.setCell ⟨ay.heap.size,2,none⟩ (nk (some ⟨N.heap.size,0,none⟩) 1 1)) fH (by simp[kC]) (λ_ _ h=>h) λk hk aC=>j6 _ _ _ _ nQ
       have sz:(N.setCell ⟨ay.heap.size,2,none⟩ (nk (some ⟨N.heap.size,0,none⟩) 1 1)).heap.size=N.heap.size:=by simp[kC]
       obtain⟨aB,bR,bM⟩:=iw.alloc _ _ W h;rw[sz]at bR;have iA:=iy.keep (Q':=λk=>g+2<=k) bM.size (λk _ aC=>aC.1) λk hk _=>bM.block k hk
       exact⟨aB,Below.blk bM gF gF.lt,NZ bR dN iA nK⟩
      clear fF bV bN fE;go_upto_region 23 with fail;refine uV (λW=>AA w b g s aU ax W/\nO W ay.heap.size #[ng nH 4,ng nH (ae:Int),nk (some ⟨N.heap.size,0,none⟩) 1 1,ng nH 0] TT/\oh.nX W (λk=>g+2<=k) (nk (some ⟨N.heap.size,0,none⟩) 1 1) [.node a sub]) (fJ _ rfl) ?_;rintro aO ⟨fK,dW,fM⟩;have eO:=jH fK;have fO:=jH dW;have gG:=jH fM;have iB:ay.heap.size<aO.heap.size:=dW.lt;clear cK bH cZ df ik iq fJ fK dW fM gD fG fH fI;have b0:=eO.box;obtain⟨⟨af,r0⟩,⟨ag,r1⟩,⟨ah,r2⟩,⟨ai,r3⟩,aj,ak,y2,au⟩:=eO.r0;obtain⟨cK,bH,cZ,df⟩:=fO.a4;have dX:g+2<=ay.heap.size:=nK;cases gB with
      |false=>
       have E:R=none:=by
        rw[O.out,aM.out];simp only[kF,aN.2,J.2 rfl];rfl
       have cz:=jH E;clear E;go_big_region;go_wp2_with fail;rw[oH,show∀A B C D,(qi aO (g+1) A B C D).drew=qi (aO.drewN 1) (g+1) A B C D from λ_ _ _ _=>rfl];obtain⟨e0,e1,e2,e3,hpost⟩:=(eO.drewN 1).fin (A:=ng nH 4) (B:=ng nH (ae:Int)) (C:=nk (some ⟨N.heap.size,0,none⟩) 1 1) (D:=ng nH 0) ⟨4,(ae:Int),0⟩ (some ⟨N.heap.size,0,none⟩) 1 1 false (λh=>by cases h) (λ_=>cz.out) rfl rfl rfl rfl;refine j4 (v:=nD #[nC #[ng nH 4,ng nH (ae:Int),nk (some ⟨N.heap.size,0,none⟩) 1 1,ng nH 0],nA false]) (by simp[kK,Tryz.results171,go_sem,e0,e1,e2,e3]) rfl ?_;rw[<-HP.out];exact hpost
      |true=>
       have eP:jW (AA w b g s aU ax aO.drew):=jH (by have:=eO.drewN 1;exact this);have dY:jW (nO aO.drew ay.heap.size #[ng nH 4,ng nH (ae:Int),nk (some ⟨N.heap.size,0,none⟩) 1 1,ng nH 0] TT):=jH fO.out;have dF:=jH (uB b s aU ax 93 aO.drew bF bT eP.rd);have bA:=jH (λh=>qK (c:=93) (s:=s) (p:=aU) bT h)
       have gH:jW (∀W eQ,pE b aO.drew W->sW W b s eQ ax->eQ<=s.size->(W.cell? ⟨ay.heap.size,0,none⟩=some (ng nH 4)/\W.cell? ⟨ay.heap.size,1,none⟩=some (ng nH (ae:Int))/\W.cell? ⟨ay.heap.size,2,none⟩=some (nk (some ⟨N.heap.size,0,none⟩) 1 1)/\W.cell? ⟨ay.heap.size,3,none⟩=some (ng nH 0))/\
         AA w b g s eQ ax W/\oh.nX W (λk=>g+2<=k) (nk (some ⟨N.heap.size,0,none⟩) 1 1) [.node a sub]):=jH λW eQ eT iC gI=>by
        have aB:=eT.blk dY (by have:=av.hb;omega);exact⟨⟨aB.cell 0,aB.cell 1,aB.cell 2,aB.cell 3⟩,eP.sub eT iC gI aH,Shape.nX.keep (gG.keep (w':=aO.drew) (jL _) (λ_ _ h=>h) λ_ _ _=>rfl) eT.size (λ_ _ h=>h) λk hk aC=>eT.block k hk (by have:=av.hb;simp;omega)⟩
       cases bD:oO 93 (nP s aU)with
       |true=>
        rw[bD]at dF;have bE:=jH (bA bD);have dZ:jW (jV jI 215 #[nz (some ⟨b,0,none⟩),ng .u8 93] aO.drew λe w'=>e=nE (nA true)/\pE b aO.drew w'/\sW w' b s (aU+1) ax):=jH (dF.mono λe w' h=>⟨h.1,h.2.1,by simpa using h.2.2⟩);clear bD dF;have ed:aU+1<=s.size:=by have:=bE.1;omega
        have dh:jW (R=some (.node ⟨4,(ae:Int),0⟩ [.node a sub],nP s (aU+1),ax)):=jH (by
         rw[O.out,aM.out];simp only[kF,aN.2,J.1 rfl,bE.2])
        have gm:ae<=65536:=nK;clear eD bF O aM dN dO dQ dR bq dP bU aA av aG eH fU fV aN bE J bA eP dY fA fD bY eU dw dI aP aa aH dA bT fC aR dU dS dV dX bQ hp hl dG fP dD dJ fw dK;go_region_with (refine(dZ).mono ?_;rintro e ek ⟨rfl,aV,aW⟩;obtain⟨⟨gJ,gK,gL,gM⟩,aF,aX⟩:=gH.out ek _ aV aW ed;have eu:=jH aF;have eB:=jH aX;obtain⟨⟨gN,gP⟩,⟨gQ,gT⟩,⟨gU,gV⟩,⟨gW,gX⟩,gY,gZ,ib,ig⟩:=aF.r0;clear aV aW aF aX)
        all_goals
         go_wp2_with fail;rw[oH];obtain⟨e0,e1,e2,e3,hpost⟩:=eu.fin (A:=ng nH 4) (B:=ng nH (ae:Int)) (C:=nk (some ⟨N.heap.size,0,none⟩) 1 1) (D:=ng nH 0) ⟨4,(ae:Int),0⟩ (some ⟨N.heap.size,0,none⟩) 1 1 true (λ_=>⟨_,dh.out,JG nK,eB.out⟩) (λh=>by cases h) rfl rfl rfl rfl;refine j4 (v:=nD #[nC #[ng nH 4,ng nH (ae:Int),nk (some ⟨N.heap.size,0,none⟩) 1 1,ng nH 0],nA true]) (by simp[kK,Tryz.results171,go_sem,kE,e0,e1,e2,e3]) rfl ?_;rw[<-HP.out];exact hpost
       |false=>
        rw[bD]at dF;have bE:=jH bD;have dZ:jW (jV jI 215 #[nz (some ⟨b,0,none⟩),ng .u8 93] aO.drew λe w'=>e=nE (nA false)/\pE b aO.drew w'/\sW w' b s (aU) ax):=jH (dF.mono λe w' h=>⟨h.1,h.2.1,by simpa using h.2.2⟩);clear bD dF;have ed:aU<=s.size:=nK;have dh:jW (R=none):=jH (by
         rw[O.out,aM.out];simp only[kF,aN.2,J.1 rfl];split;.rename_i r4 e4;exact(sU bE e4).elim
         .rfl)
        have gm:ae<=65536:=nK;clear eD bF O aM dN dO dQ dR bq dP bU aA av aG eH fU fV aN bE J bA eP dY fA fD bY eU dw dI aP aa aH dA bT fC aR dU dS dV dX bQ hp hl dG fP dD dJ fw dK;go_region_with (refine(dZ).mono ?_;rintro e ek ⟨rfl,aV,aW⟩;obtain⟨⟨gJ,gK,gL,gM⟩,aF,aX⟩:=gH.out ek _ aV aW ed;have eu:=jH aF;have eB:=jH aX;obtain⟨⟨gN,gP⟩,⟨gQ,gT⟩,⟨gU,gV⟩,⟨gW,gX⟩,gY,gZ,ib,ig⟩:=aF.r0;clear aV aW aF aX)
        all_goals
         go_wp2_with fail;rw[oH];obtain⟨e0,e1,e2,e3,hpost⟩:=eu.fin (A:=ng nH 4) (B:=ng nH (ae:Int)) (C:=nk (some ⟨N.heap.size,0,none⟩) 1 1) (D:=ng nH 0) ⟨4,(ae:Int),0⟩ (some ⟨N.heap.size,0,none⟩) 1 1 false (λh=>by cases h) (λ_=>dh.out) rfl rfl rfl rfl;refine j4 (v:=nD #[nC #[ng nH 4,ng nH (ae:Int),nk (some ⟨N.heap.size,0,none⟩) 1 1,ng nH 0],nA false]) (by simp[kK,Tryz.results171,go_sem,kE,e0,e1,e2,e3]) rfl ?_;rw[<-HP.out];exact hpost
   have iE:((s[p].toNat:Int)==91)=false:=hk.out 91 bz;have aY:=jH I.out;rw[if_neg bz]at aY;clear bz I;have I:=aY;clear aY;by_cases aL:s[p]=123
   .have dD:((s[p].toNat:Int)==123)=true:=by rw[aL];rfl
    have O:=jH I.out;rw[if_pos aL,show p+2=q+1 by have:=fU.out;omega,show l+1=m+2 by have:=fV.out;omega]at O;have gp:=jH (U6 D dep b s bF bY (λp l w aB bR bM=>eD.out (dep+1) p l w (by have:=dG.out;omega) aB bR bM) q m w3 aP dI U.rd);rw[<-O.out]at gp;have bQ:=jH U.hg;clear aL I hk;go_wp2_with fail;refine(gp).mono ?_;rintro e w4 ⟨a,o,n,c,ok,V,ax,rfl,Y,Z,aa,aH,hok,Q⟩;have aA:=jH (U.sub Y Z aa aH);have J:=jH (jU hok Q);clear Y Z hok Q gp U b0 af r0 ag r1 ah r2 ai r3 aj ak y2 au;obtain⟨⟨af,r0⟩,⟨ag,r1⟩,⟨ah,r2⟩,⟨ai,r3⟩,aj,ak,y2,au⟩:=aA.r0;go_wp2_with fail;have aD:ok=true->∃sub,R=some (.node a sub,nP s V,ax)/\TL.wf a/\oh.nX w4 (λk=>g+2<=k) (nk o n c) sub:=λh=>by
     obtain⟨sub,aB,bR,bM⟩:=J.1 h;exact⟨sub,aB,bR,bM.keep (jL _) (λk _ aC=>kg bQ aC) λ_ _ _=>rfl⟩
    rw[oH];obtain⟨e0,e1,e2,e3,hpost⟩:=aA.fin (A:=ng nH a.kind) (B:=ng nH a.size) (C:=nk o n c) (D:=ng nH a.tail) a o n c ok aD J.2 rfl rfl rfl rfl;refine j4 (v:=nD #[nC #[ng nH a.kind,ng nH a.size,nk o n c,ng nH a.tail],nA ok]) (by simp[kK,Tryz.results171,go_sem,e0,e1,e2,e3]) rfl ?_;rw[<-HP.out];exact hpost
   .have iD:((s[p].toNat:Int)==123)=false:=hk.out 123 aL
    have O:=jH I.out;rw[if_neg aL]at O;clear aL I hk;go_wp2_with fail;rw[oH];obtain⟨e0,e1,e2,e3,hpost⟩:=U.fin (A:=ng nH 0) (B:=ng nH 0) (C:=nk none 0 0) (D:=ng nH 0) ⟨0,0,0⟩ none 0 0 false (λh=>by cases h) (λ_=>O.out) rfl rfl rfl rfl;exact Ld
def Le(l:List UInt8)(w:jJ)(e:Ending)(w':jJ):Prop:=
 ∃(a:TL) (o:Option l5) (n c:Nat) (er:Int) (sub:List (nL TL)),e=nE (nD #[nC #[ng nH a.kind,ng nH a.size,nk o n c,ng nH a.tail],ng nH er])/\jS w.heap.size w w'/\TL.wf a/\oL w' (nk o n c) sub/\
  (xu l=some (.node a sub)/\er=0\/xu l=none/\er=3/\a=⟨0,0,0⟩/\sub=[])
theorem Qv(s:ByteArray):nP s 0=s.data.toList:=rfl
theorem Qw(h:rd 8 l 64=none):xu l=none:=by unfold xu;rw[h]
theorem Qx(h:rd 8 l 64=some (x,r,n))(A:r≠[]):xu l=none:=by
 unfold xu;rw[h];cases r with
 |nil=>exact absurd rfl A
 |cons _ _=>rfl
theorem U7(h:rd 8 l 64=some (x,[],n)):xu l=if pX x then some x else none:=by unfold xu;rw[h]
theorem Qy{p:Prop}(h:p:=by
 refine j4 (v:=nD #[nC #[ng nH 0,ng nH 0,nk none 0 0,ng nH 0],ng nH 3]) (by simp[kK,Tryz.results121,go_sem,e0,e1,e2,e3]) rfl ?_;exact hpost):p:=h
theorem YG(s:ByteArray)(w:jJ)(hs:s.size<=j5)(aN:qo w):
  jV jI 121 #[ny s] w (Le s.data.toList w):=by
 have aD:=aN.lt;obtain⟨g,hg⟩:=nT w.heap.size
 have aV:jW (∀W,(w.alloc (nG #[ng nH 0,ng nH 0,nk none 0 0,ng nH 0] TT)).alloc (nG #[ny s,ng nH 0,ng nH 64] 208)=W->jS g w W/\sW W (g+1) s 0 64/\
   nO W g #[ng nH 0,ng nH 0,nk none 0 0,ng nH 0] TT/\W.heap.size=g+2):=jH λW h=>by
  subst h;have aF:=(jT w.heap.size w).alloc (jL _) (nG #[ng nH 0,ng nH 0,nk none 0 0,ng nH 0] TT);have aG:=nO.new w #[ng nH 0,ng nH 0,nk none 0 0,ng nH 0] TT;have Y:(w.alloc (nG #[ng nH 0,ng nH 0,nk none 0 0,ng nH 0] TT)).heap.size=g+1:=nQ;rw[hg]at aF aG;generalize w.alloc (nG #[ng nH 0,ng nH 0,nk none 0 0,ng nH 0] TT)=w1 at*;have aj:=(jT w1.heap.size w1).alloc (jL _) (nG #[ny s,ng nH 0,ng nH 64] 208);have aH:=nO.new w1 #[ny s,ng nH 0,ng nH 64] 208;rw[Y]at aH;exact⟨aF.trans (aj.mono nK),aH,Below.blk aj aG nK,nQ⟩
 have bJ:=jH aN;have aW:1<g:=hg▸aD;obtain⟨aO,aP⟩:=nT (Le s.data.toList w);have aX:=jH aP;rw[aP];clear aN aD aP;go_in;go_upto_region 2 with fail;generalize (w.alloc (nG #[ng nH 0,ng nH 0,nk none 0 0,ng nH 0] TT)).alloc (nG #[ny s,ng nH 0,ng nH 64] 208)=w1 at*;obtain⟨ak,aI,Z,Y⟩:=aV.out _ rfl;have aY:jW (jV jI 171 #[nz (some ⟨g+1,0,none⟩),ng nH 1] w1 (tO (rd 8 (nP s 0) 64) (g+1) s w1)):=jH (a1H (g+1) s hs 8 1 0 64 w1 rfl (kI _) (jL _) aI);have af:=jH (jU ak (jU Z Y));clear aV ak aI Z Y;go_wp2_with fail;refine(aY).mono ?_;rintro e w2 ⟨a,o,n,c,ok,ag,l2,rfl,aa,aJ,aZ,bO,hok,aK⟩;have bK:g+2<=w2.heap.size:=by have:=aa.size;have:=af.2.2;omega
 have au:jW (jS g w w2/\sW w2 (g+1) s ag l2/\nO w2 g #[ng nH 0,ng nH 0,nk none 0 0,ng nH 0] TT):=jH ⟨aa.below af.1 nK (by have:=af.2.2;omega),aJ,aa.blk af.2.1 nK⟩;have U:=jH (jU hok aK);have aL:jW (∀W,w2.alloc (nG #[ng nH a.kind,ng nH a.size,nk o n c,ng nH a.tail] TT)=W->jS w2.heap.size w2 W/\nO W w2.heap.size #[ng nH a.kind,ng nH a.size,nk o n c,ng nH a.tail] TT/\W.heap.size=w2.heap.size+1):=jH λW h=>by
  subst h;exact⟨(jT w2.heap.size w2).alloc (jL _) _,nO.new w2 _ _,nR⟩
 have bg:=jH af.2.2;clear aa aJ hok aK aY af;go_upto_region 3 with fail;generalize w2.alloc (nG #[ng nH a.kind,ng nH a.size,nk o n c,ng nH a.tail] TT)=w3 at*;obtain⟨E,aM,bq⟩:=aL.out _ rfl
 have C:jW (jS g w w3/\sW w3 (g+1) s ag l2/\nO w3 g #[ng nH 0,ng nH 0,nk none 0 0,ng nH 0] TT/\nO w3 w2.heap.size #[ng nH a.kind,ng nH a.size,nk o n c,ng nH a.tail] TT/\jS w2.heap.size w2 w3):=
  jH ⟨au.1.trans (E.mono nK),sW.below au.2.1 E,Below.blk E au.2.2 nK,aM,E⟩
 have O:w2.heap.size<w3.heap.size:=nK;clear aL E aM bq;obtain⟨aQ,aR,aS,aT⟩:=C.2.2.2.1.a4;obtain⟨r0,r1,r2,r3,az,aA,y2,aB⟩:=C.2.2.1.b4;obtain⟨c0,c1⟩:=C.2.1.a2
 have Q:jW (∀W,jS g w W->(∃cs,nO W g cs TT/\cs.size=4)->xu s.data.toList=none->(qi W g (ng nH 0) (ng nH 0) (nk none 0 0) (ng nH 0)).cell? ⟨g,0,none⟩=some (ng nH 0)/\(qi W g (ng nH 0) (ng nH 0) (nk none 0 0) (ng nH 0)).cell? ⟨g,1,none⟩=some (ng nH 0)/\
   (qi W g (ng nH 0) (ng nH 0) (nk none 0 0) (ng nH 0)).cell? ⟨g,2,none⟩=some (nk none 0 0)/\(qi W g (ng nH 0) (ng nH 0) (nk none 0 0) (ng nH 0)).cell? ⟨g,3,none⟩=some (ng nH 0)/\
   aO (nE (nD #[nC #[ng nH 0,ng nH 0,nk none 0 0,ng nH 0],ng nH 3])) (qi W g (ng nH 0) (ng nH 0) (nk none 0 0) (ng nH 0))):=jH λW I hB bL=>by
  obtain⟨cs,Z,bu⟩:=hB;have ah:=wK (a:=ng nH 0) (b:=ng nH 0) (c:=nk none 0 0) (d:=ng nH 0) Z bu;refine⟨ah.cell 0,ah.cell 1,ah.cell 2,ah.cell 3,?_⟩;rw[<-aX.out];refine⟨⟨0,0,0⟩,none,0,0,3,[],rfl,?_,JG nK,Dn _ _ _,.inr ⟨bL,rfl,rfl,rfl⟩⟩;rw[hg];exact⟨I.os,I.tape,I.output,kg I.size (mV yC.symm),λk hk=>(Az k nK).trans (I.block k hk)⟩
 cases ok with
 |false=>
  have aU:=jH (Qw (U.2 rfl));clear U;go_wp2_with fail;rw[oH];obtain⟨e0,e1,e2,e3,hpost⟩:=Q.out w3 C.1 ⟨_,C.2.2.1,rfl⟩ aU.out;exact Qy
 |true=>
  by_cases J:ag=s.size
  .have bM:((ag:Int) !=s.size)=false:=by simp[J]
   have av:jW (∃sub,rd 8 s.data.toList 64=some (.node a sub,[],l2)/\TL.wf a/\oh.nX w3 (λk=>g+2<=k) (nk o n c) sub):=jH (by
    obtain⟨sub,V,ax,ai⟩:=U.1 rfl;rw[Qv,si (s:=s) (p:=ag) nK]at V;exact⟨sub,V,ax,ai.keep C.2.2.2.2.size (λk _ hk=>by have:=bg.out;omega) λk hk _=>C.2.2.2.2.block k hk⟩)
   obtain⟨sub,V,ax,ai⟩:=av.out;have ae:=jH (U7 V);have bz:=jH ax;have bA:=jH ai;have ay:=jH (Cz (.node a sub) w3 (nk o n c) (ai.keep (jL _) (λ_ _ _=>trivial) λ_ _ _=>rfl) (bJ.below C.1 aW));have bN:=jH J;clear V ax ai av J;simp only[nL.oQ]at ay;cases aC:pX (.node a sub)with
   |false=>
    rw[aC]at ay ae;clear aC;go_wp2_with fail;refine(ay).mono ?_;rintro e w4 ⟨rfl,A⟩;have N:=jH A;have bB:=(A.cell (p:=⟨g,0,none⟩) (show g<w3.heap.size by omega)).trans r0;have bC:=(A.cell (p:=⟨g,1,none⟩) (show g<w3.heap.size by omega)).trans r1;have bD:=(A.cell (p:=⟨g,2,none⟩) (show g<w3.heap.size by omega)).trans r2;have bE:=(A.cell (p:=⟨g,3,none⟩) (show g<w3.heap.size by omega)).trans r3;have bF:=(A.frozen (p:=⟨g,0,none⟩) (show g<w3.heap.size by omega)).trans az;have bG:=(A.frozen (p:=⟨g,1,none⟩) (show g<w3.heap.size by omega)).trans aA;have bH:=(A.frozen (p:=⟨g,2,none⟩) (show g<w3.heap.size by omega)).trans y2;have bI:=(A.frozen (p:=⟨g,3,none⟩) (show g<w3.heap.size by omega)).trans aB;clear A r0 r1 r2 r3 az aA y2 aB aQ aR aS aT c0 c1;go_wp2_with fail;rw[oH];obtain⟨e0,e1,e2,e3,hpost⟩:=Q.out w4 (C.1.trans (N.mono nK)) ⟨_,Below.blk N C.2.2.1 nK,rfl⟩ (by rw[ae.out];rfl);exact Qy
   |true=>
    rw[aC]at ay ae;clear aC;go_wp2_with fail;refine(ay).mono ?_;rintro e w4 ⟨rfl,A⟩;have N:=jH A;have bB:=(A.cell (p:=⟨g,0,none⟩) (show g<w3.heap.size by omega)).trans r0;have bC:=(A.cell (p:=⟨g,1,none⟩) (show g<w3.heap.size by omega)).trans r1;have bD:=(A.cell (p:=⟨g,2,none⟩) (show g<w3.heap.size by omega)).trans r2;have bE:=(A.cell (p:=⟨g,3,none⟩) (show g<w3.heap.size by omega)).trans r3;have bF:=(A.frozen (p:=⟨g,0,none⟩) (show g<w3.heap.size by omega)).trans az;have bG:=(A.frozen (p:=⟨g,1,none⟩) (show g<w3.heap.size by omega)).trans aA;have bH:=(A.frozen (p:=⟨g,2,none⟩) (show g<w3.heap.size by omega)).trans y2;have bI:=(A.frozen (p:=⟨g,3,none⟩) (show g<w3.heap.size by omega)).trans aB;have bP:=(A.cell (p:=⟨w2.heap.size,0,none⟩) O).trans aQ;have bQ:=(A.cell (p:=⟨w2.heap.size,1,none⟩) O).trans aR;have bR:=(A.cell (p:=⟨w2.heap.size,2,none⟩) O).trans aS;have bS:=(A.cell (p:=⟨w2.heap.size,3,none⟩) O).trans aT;clear A r0 r1 r2 r3 az aA y2 aB aQ aR aS aT c0 c1;go_wp2_with fail;rw[oH];have ah:=wK (a:=ng nH a.kind) (b:=ng nH a.size) (c:=nk o n c) (d:=ng nH a.tail) (Below.blk N C.2.2.1 nK) rfl;obtain⟨e0,e1,e2,e3⟩:=ah.a4;refine j4 (v:=nD #[nC #[ng nH a.kind,ng nH a.size,nk o n c,ng nH a.tail],ng nH 0]) (by simp[kK,Tryz.results121,go_sem,e0,e1,e2,e3]) rfl ?_;rw[<-aX.out];have I:jS g w w4:=C.1.trans (N.mono nK);refine⟨a,o,n,c,0,sub,rfl,?_,bz.out,?_,.inl ⟨by rw[ae.out];rfl,rfl⟩⟩
    .rw[hg]
     exact⟨I.os,I.tape,I.output,kg I.size (mV yC.symm),λk hk=>(Az k nK).trans (I.block k hk)⟩
    .exact(wJ (Shape.nX.below bA N) (λk hk=>by omega)).keep (jL _) (λ_ _ _=>trivial) λ_ _ _=>rfl
  .have bM:((ag:Int) !=s.size)=true:=FL
   have aU:jW (xu s.data.toList=none):=jH (by
    obtain⟨sub,V,ax,ai⟩:=U.1 rfl;exact Qx V λh=>J (JE aZ h))
   clear J U;go_wp2_with fail;rw[oH];obtain⟨e0,e1,e2,e3,hpost⟩:=Q.out w3 C.1 ⟨_,C.2.2.1,rfl⟩ aU.out;exact Qy
end
end Go.Proofs.YtamfcjmhnndbdaaGreatDoor


