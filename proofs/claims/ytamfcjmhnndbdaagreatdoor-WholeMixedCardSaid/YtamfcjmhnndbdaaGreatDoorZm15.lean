/- Part 15 of the proof. -/
import Derived.Test.YtamfcjmhnndbdaaGreatDoorZm00
import Derived.Test.YtamfcjmhnndbdaaGreatDoorZm14
import Derived.Deep.RegionWith
import Derived.Deep.RegionHeld3
open Go.Value renaming agg→nD,bool→nC,int→nk,pointer→nA,slice→ny,string→nz,tuple→nE,slice→kM
open Go.Obj renaming cells→nH
open Go.IntKind renaming i64→nI,u64→nJ
open Go.Ending renaming returned→nG
open Go.Lib renaming hid→jH
open Go.Proofs.Tryz renaming prog→jI
open Go renaming World→jJ,Value→jP,Calls→jV,bodyPost_ret→jZ,maxLen→j3,TypeId→ko,results→kQ,Addr→lH
open Nat renaming le_refl→jK,le_trans→jY,lt_of_lt_of_le→kG,zero_le→kH,lt_or_ge→kZ,le_of_eq→mR
open List renaming setIfInBounds_toArray→jL,set_cons_zero→jQ,set_cons_succ→jR,length_append→j5,mem_cons→mM
open Go.RowKit renaming Below→jS,Hid→jX,intOf→kT
open Go.RowKit.Below renaming refl→jT,heap_setCell→j6
open And renaming intro→jU
open Bool renaming and_eq_true→j4
open Go.World renaming setCell→kz
open Option renaming bind_some→kD
open Go.Act renaming put→kE
open Array renaming length_toList→kY
open Go.Lit renaming int→lI
open UInt8 renaming toNat_inj→lX
open Option renaming none→V,some→U
open Go.Addr renaming mk→Z
namespace Go.Proofs.YtamfcjmhnndbdaaGreatDoor
set_option linter.unusedVariables false
set_option linter.unusedSimpArgs false
set_option maxRecDepth 100000
set_option maxHeartbeats 8000000
variable {s:ByteArray}{p:Prop}{l r l1:List UInt8}{t n g b gr B:Nat}{Gg:List UInt8->Nat->Option (nM TL×List UInt8×Nat)}{x:nM TL}{w w0:jJ}{v:jP}{R:Option (nM TL×List UInt8×Nat)}{L:List (qg TL)}
section
open Go.RowKit
abbrev TT:ko:=63
def tL(R:Option (nM TL×List UInt8×Nat))(b:Nat)(s:ByteArray)(w:jJ)(e:Ending)(w':jJ):Prop:=
 ∃(a:TL) (o:Option lH) (n c:Nat) (ok:Bool) (A C:Nat),e=nG (nE #[nD #[nk nI a.kind,nk nI a.size,ny o n c,nk nI a.tail],nC ok])/\pE b w w'/\sQ w' b s A C/\A<=s.size/\C<=64/\
  (ok=true->∃sub,R=U (.node a sub,nQ s A,C)/\TL.wf a/\oh.nX w' (λk=>w.heap.size<=k) (ny o n c) sub)/\(ok=false->R=V)
theorem qK{c:UInt8}{p:Nat}(hp:p<=s.size)(h:oP c (nQ s p)=true):p<s.size/\nQ s p=c::nQ s (p+1):=by
 rcases kZ p s.size with A|A
 .rw[qY A]at h⊢
  simp[oP]at h;exact⟨A,by rw[h]⟩
 .rw[rY A]at h;simp[oP]at h
theorem sO{c:UInt8}(h:oP c l=false)(e:l=c::r):False:=by
 rw[e]at h;simp[oP]at h
theorem He{p:Nat}(hp:p<=s.size)(h:oP 63 (nQ s p)=true):mark (nQ s p) t=U (nQ s (p+1),t+1):=by
 rw[(qK hp h).2];rfl
theorem K6{p:Nat}(h:oP 63 (nQ s p)=false):mark (nQ s p) t=if 0<t then V else U (nQ s p,t):=by
 unfold mark;split;.rename_i r e;exact(sO h e).elim
 .rfl
theorem Qm{f:Nat}{sub:List (nM TL)}(h:mark l t=V):wP Gg (f+1) l n sub t=V:=by
 simp only[wP,h];rfl
theorem Qn{f A:Nat}{sub:List (nM TL)}(h:mark l t=U (l1,A))(h2:Gg l1 n=V):wP Gg (f+1) l n sub t=V:=by
 simp only[wP,h,kD,h2];rfl
theorem NN{f A n2:Nat}{sub:List (nM TL)}(h:mark l t=U (l1,A))(h2:Gg l1 n=U (x,125::r,n2)):
  wP Gg (f+1) l n sub t=U (.node ⟨5,0,A⟩ (sub++[x]),r,n2):=by
 simp only[wP,h,kD,h2]
theorem Jw{f A n2:Nat}{sub:List (nM TL)}(h:mark l t=U (l1,A))(h2:Gg l1 n=U (x,44::r,n2)):
  wP Gg (f+1) l n sub t=wP Gg f r n2 (sub++[x]) A:=by
 simp only[wP,h,kD,h2]
theorem UZ{f A n2:Nat}{l2:List UInt8}{sub:List (nM TL)}(h:mark l t=U (l1,A))(h2:Gg l1 n=U (x,l2,n2))(C:oP 125 l2=false)(E:oP 44 l2=false):wP Gg (f+1) l n sub t=V:=by
 simp only[wP,h,kD,h2];split;.exact(sO C rfl).elim
 .exact(sO E rfl).elim
 .rfl
theorem Dn:Tryz.prog.underlying 61=U (.slice TT):=Tryz.underlying61
theorem Sv:(Tryz.prog.info? TT).map (λi=>(i.zero,i.size,i.bytes))=U (U (nD #[nk nI 0,nk nI 0,ny V 0 0,nk nI 0]),4,48):=nN
theorem K7:∀(a:TL)(o:Option lH)(n c:Nat),∀u∈oh.cells a (ny o n c),u.oneCell'=true:=by
 intro a o n c u A;simp[oh]at A;rcases A with rfl|rfl|rfl|rfl<;>rfl
def VN(w:jJ)(g:Nat)(v:jP)(t:Nat):Prop:=nP w g #[nk nI 5,nk nI 0,v,nk nI (t:Int)] TT
theorem VN.more(h:VN w g v t):VN (w.setCell (Z g 3 V) (nk nI ((t:Int)+1))) g v (t+1):=by
 have:=nP.set h 3 (nk nI ((t:Int)+1));simpa [VN]using this
theorem VN.sub(h:VN w g v t)(v':jP):VN (w.setCell (Z g 2 V) v') g v' t:=by
 have:=nP.set h 2 v';simpa [VN]using this
structure Hf(w0:jJ)(b gr B:Nat)(s:ByteArray)(p l:Nat)(v:jP)(L:List (qg TL))(t:Nat)(w:jJ):Prop where
 upd:pE b w0 w
 rd:sQ w b s p l
 res:∃cs,nP w gr cs TT/\cs.size=4
 st:VN w (gr+1) v t
 own:vQ oh TT w B v L
 hp:p<=s.size
 hl:l<=64
 hlen:L.length<=64
 ht:t<=64
 hB:B<=w.heap.size
theorem wF{cs:Array jP}{a b c d:jP}{t:ko}(h:nP w g cs t)(hs:cs.size=4):nP (qo w g a b c d) g #[a,b,c,d] t:=by
 obtain⟨l⟩:=cs
 match l,hs with
 |[x,y,z,u],_=>exact NM h
theorem NP{p l:Nat}(I:pE b w0 w)(J:sQ w b s p l)(hp:p<=s.size)(hl:l<=64)(hg:∃cs,nP w gr cs TT/\cs.size=4)(A:w0.heap.size<=gr)(hb:b<w0.heap.size)(N:R=V):
  (qo w gr (nk nI 0) (nk nI 0) (ny V 0 0) (nk nI 0)).cell? (Z gr 0 V)=U (nk nI 0)/\(qo w gr (nk nI 0) (nk nI 0) (ny V 0 0) (nk nI 0)).cell? (Z gr 1 V)=U (nk nI 0)/\
   (qo w gr (nk nI 0) (nk nI 0) (ny V 0 0) (nk nI 0)).cell? (Z gr 2 V)=U (ny V 0 0)/\(qo w gr (nk nI 0) (nk nI 0) (ny V 0 0) (nk nI 0)).cell? (Z gr 3 V)=U (nk nI 0)/\
   tL R b s w0 (nG (nE #[nD #[nk nI 0,nk nI 0,ny V 0 0,nk nI 0],nC false])) (qo w gr (nk nI 0) (nk nI 0) (ny V 0 0) (nk nI 0)):=by
 obtain⟨cs,C,E⟩:=hg;have hB:=wF (a:=nk nI 0) (b:=nk nI 0) (c:=ny V 0 0) (d:=nk nI 0) C E;exact⟨hB.cell 0,hB.cell 1,hB.cell 2,hB.cell 3,⟨0,0,0⟩,V,0,0,false,p,l,rfl,Dl I A,yU J nL,hp,hl,(λh=>by cases h),λ_=>N⟩
theorem Hf.sub{w':jJ}{p l:Nat}(h:Hf w0 b gr B s p l v L t w)(A:pE b w w')(I:b<gr)(N:gr+2<=B){C E:Nat}(J:sQ w' b s C E)(hp:C<=s.size)(hl:E<=64):
  Hf w0 b gr B s C E v L t w':=by
 obtain⟨cs,h1,h2⟩:=h.res;exact⟨h.upd.trans A,J,⟨cs,A.blk h1 nL,h2⟩,A.blk h.st nL,h.own.upd A nL,hp,hl,h.hlen,h.ht,jY h.hB A.size⟩
theorem Hf.more{p l:Nat}(h:Hf w0 b gr B s p l v L t w)(A:b<gr)(E:gr+2<=B)(I:w0.heap.size<=gr)(ht:t<64):
  Hf w0 b gr B s p l v L (t+1) (w.setCell (Z (gr+1) 3 V) (nk nI ((t:Int)+1))):=by
 obtain⟨cs,h1,h2⟩:=h.res;have C:pE (gr+1) w (w.setCell (Z (gr+1) 3 V) (nk nI ((t:Int)+1))):=(pE.refl _ _).set 3 _;exact⟨h.upd.Bu (a:=(Z (gr+1) 3 V)) (show w0.heap.size<=gr+1 by omega) _,nP.setOther h.rd nT _,⟨cs,h1.setOther nS _,h2⟩,h.st.more,h.own.upd C nL,h.hp,h.hl,h.hlen,nL,by simpa [kz]using h.hB⟩
theorem Hf.grown{w':jJ}{p l:Nat}{v':jP}{y:qg TL}(h:Hf w0 b gr B s p l v L t w)(E:b<gr)(N:gr+2<=B)(O:w0.heap.size<=gr)(hL:L.length<64)(ho:vQ oh TT w' B v' (L++[y]))(hb:jS B w w')(hsz:w.heap.size<w'.heap.size)(hg:w.grownBy w' v.ownBlock):Hf w0 b gr B s p l v' (L++[y]) t (w'.setCell (Z (gr+1) 2 V) v'):=by
 obtain⟨cs,h1,h2⟩:=h.res;have I:pE (gr+1) w' (w'.setCell (Z (gr+1) 2 V) v'):=(pE.refl _ _).set 2 _;have J:sQ w' b s p l:=Below.blk hb h.rd nL;have hst:VN w' (gr+1) v t:=Below.blk hb h.st nL;have A:pE b w0 w':=⟨hg.os.trans h.upd.os,hg.tape.trans h.upd.tape,hg.output.trans h.upd.output,jY h.upd.size hg.size,λk hk C=>by
  rw[<-h.upd.block k hk C];refine hg.block k (kG hk h.upd.size) λe=> ?_
  have:=(h.own.block k e.symm).1;omega⟩
 exact⟨A.Bu (a:=(Z (gr+1) 2 V)) (show w0.heap.size<=gr+1 by omega) _,nP.setOther J nT _,⟨cs,(Below.blk hb h1 nL).setOther nS _,h2⟩,hst.sub v',ho.upd I nL,h.hp,h.hl,nT,h.ht,by simp[kz];have:=h.hB;omega⟩
theorem Hf.c0{p l:Nat}(h:Hf w0 b gr B s p l v L t w):w.cell? (Z (gr+1) 0 V)=U (nk nI 5)/\w.cell? (Z (gr+1) 1 V)=U (nk nI 0)/\
  w.cell? (Z (gr+1) 2 V)=U v/\w.cell? (Z (gr+1) 3 V)=U (nk nI (t:Int))/\w.frozen? (Z (gr+1) 2 V)=false/\w.frozen? (Z (gr+1) 3 V)=false:=by
 have:=h.st;exact⟨nP.cell this 0,nP.cell this 1,nP.cell this 2,nP.cell this 3,nP.free this 2,nP.free this 3⟩
theorem Hf.r0{p l:Nat}(h:Hf w0 b gr B s p l v L t w):(∃x,w.cell? (Z gr 0 V)=U x)/\(∃x,w.cell? (Z gr 1 V)=U x)/\(∃x,w.cell? (Z gr 2 V)=U x)/\(∃x,w.cell? (Z gr 3 V)=U x)/\
  w.frozen? (Z gr 0 V)=false/\w.frozen? (Z gr 1 V)=false/\w.frozen? (Z gr 2 V)=false/\w.frozen? (Z gr 3 V)=false:=by
 obtain⟨⟨l⟩,h1,h2⟩:=h.res
 match l,h2 with
 |[x,y,z,u],_=>exact⟨⟨x,h1.cell 0⟩,⟨y,h1.cell 1⟩,⟨z,h1.cell 2⟩,⟨u,h1.cell 3⟩,h1.free 0,h1.free 1,h1.free 2,h1.free 3⟩
theorem Hf.K8{p l:Nat}(h:Hf w0 b gr B s p l v L t w)(A:w0.heap.size<=gr)(hb:b<w0.heap.size):
  (qo w gr (nk nI 0) (nk nI 0) (ny V 0 0) (nk nI 0)).cell? (Z gr 0 V)=U (nk nI 0)/\(qo w gr (nk nI 0) (nk nI 0) (ny V 0 0) (nk nI 0)).cell? (Z gr 1 V)=U (nk nI 0)/\
   (qo w gr (nk nI 0) (nk nI 0) (ny V 0 0) (nk nI 0)).cell? (Z gr 2 V)=U (ny V 0 0)/\(qo w gr (nk nI 0) (nk nI 0) (ny V 0 0) (nk nI 0)).cell? (Z gr 3 V)=U (nk nI 0)/\
   tL V b s w0 (nG (nE #[nD #[nk nI 0,nk nI 0,ny V 0 0,nk nI 0],nC false])) (qo w gr (nk nI 0) (nk nI 0) (ny V 0 0) (nk nI 0)):=
 NP h.upd h.rd h.hp h.hl h.res A hb rfl
theorem Hf.K9{p l:Nat}{oa:Option lH}{cap:Nat}(h:Hf w0 b gr B s p l (ny oa n cap) L t w)(E:w0.heap.size<=gr)(hb:b<w0.heap.size)(I:gr+2<=B):
  (qo w gr (nk nI 5) (nk nI 0) (ny oa n cap) (nk nI t)).cell? (Z gr 0 V)=U (nk nI 5)/\(qo w gr (nk nI 5) (nk nI 0) (ny oa n cap) (nk nI t)).cell? (Z gr 1 V)=U (nk nI 0)/\
   (qo w gr (nk nI 5) (nk nI 0) (ny oa n cap) (nk nI t)).cell? (Z gr 2 V)=U (ny oa n cap)/\(qo w gr (nk nI 5) (nk nI 0) (ny oa n cap) (nk nI t)).cell? (Z gr 3 V)=U (nk nI t)/\
   tL (U (.node ⟨5,0,t⟩ (L.map qg.tree),nQ s p,l)) b s w0 (nG (nE #[nD #[nk nI 5,nk nI 0,ny oa n cap,nk nI t],nC true])) (qo w gr (nk nI 5) (nk nI 0) (ny oa n cap) (nk nI t)):=by
 obtain⟨cs,A,C⟩:=h.res;have hB:=wF (a:=nk nI 5) (b:=nk nI 0) (c:=ny oa n cap) (d:=nk nI t) A C;have ht:=h.ht;refine⟨hB.cell 0,hB.cell 1,hB.cell 2,hB.cell 3,⟨5,0,t⟩,oa,n,cap,true,p,l,rfl,Dl h.upd E,yU h.rd nL,h.hp,h.hl,(λ_=>⟨L.map qg.tree,rfl,⟨rfl,rfl,?_⟩,?_⟩),λh=>by cases h⟩
 .have h1:IntKind.i64.min= -9223372036854775808:=rfl
  have h2:IntKind.i64.max=9223372036854775807:=rfl;simp[Lit.wf,h1,h2];omega
 .exact(wE h.own.subs (λk hk=>by omega)).keep (jK _) (λk _ hk=>by omega) λ_ _ _=>rfl
theorem Sw(h:p:=by
 have hal:=(jT w4.heap.size w4).alloc (jK _) o;exact F4.sub (pE.of hal) HC.1 (jK _) (F4.rd.below hal) OG hl4):p:=h
theorem YC(h:p:=by
 rw[hq2]at CP3;have HQ2:=jH hq2;clear hq2;go_wp2_with fail;refine(CP3).mono ?_;rintro e w9 ⟨rfl,hu9,Qi⟩;have F9:=jH (F8.sub hu9 HC.1 (jK _) (show sQ w9 b s p2 l2 from by simpa using Qi) OG nL);clear hu9 Qi;obtain⟨⟨x0,r0⟩,⟨x1,r1⟩,⟨x2,r2⟩,⟨x3,r3⟩,y0,y1,y2,y3⟩:=F9.r0;go_wp2_with fail;rw[oL];obtain⟨e0,e1,e2,e3,hpost⟩:=F9.K8 HC.2.1 HC.2.2;refine jZ (v:=nE #[nD #[nk nI 0,nk nI 0,ny V 0 0,nk nI 0],nC false]) (by simp[kQ,Tryz.results216,go_sem,e0,e1,e2,e3]) rfl ?_;rw[<-HP.out,HR.out,UZ Qo.out VO.out HQ1.out HQ2.out];exact hpost):p:=h
theorem YD(h:p:=by
 go_upto_region 9 with fail;have F6:=jH (F5 (nH #[nk nI a.kind,nk nI a.size,ny o n c,nk nI a.tail] TT));generalize w4.alloc (nH #[nk nI a.kind,nk nI a.size,ny o n c,nk nI a.tail] TT)=w5 at*;obtain⟨⟨x0,r0⟩,⟨x1,r1⟩,⟨x2,r2⟩,⟨x3,r3⟩,y0,y1,y2,y3⟩:=F6.r0;go_wp2_with fail;rw[oL];obtain⟨e0,e1,e2,e3,hpost⟩:=F6.K8 HC.2.1 HC.2.2;refine jZ (v:=nE #[nD #[nk nI 0,nk nI 0,ny V 0 0,nk nI 0],nC false]) (by simp[kQ,Tryz.results216,go_sem,e0,e1,e2,e3]) rfl ?_;rw[<-HP.out,HR.out,Qn Qo.out HN.out];exact hpost):p:=h
theorem YE(h:p:=by
 subst h;have hal:=(jT w4.heap.size w4).alloc (jK _) (nH #[nk nI a.kind,nk nI a.size,ny o n c,nk nI a.tail] TT);exact⟨F4.sub (pE.of hal) HC.1 (jK _) (F4.rd.below hal) OG hl4,nP.new w4 _ _,hal⟩):p:=h
theorem U0(D dep b:Nat)(s:ByteArray)(hs:s.size<=j3)(cZ:dep<=8)(bT:∀(p l:Nat) (w:jJ),p<=s.size->l<=64->sQ w b s p l->jV jI 171 #[nA (U (Z b 0 V)),nk nI ((dep:Int)+1)] w (tL (rd D (nQ s p) l) b s w))(p l:Nat)(w:jJ)(hp:p<=s.size)(hl:l<=63)(hb:sQ w b s p l):
  jV jI 216 #[nA (U (Z b 0 V)),nk nI (dep:Int)] w
   (tL (if oP 125 (nQ s p)then U (.node ⟨5,0,0⟩ [],nQ s (p+1),l)else wP (rd D) (l+2) (nQ s p) l [] 0) b s w):=by
 obtain⟨g,hg⟩:=nV w.heap.size;have bU:b<g:=hg▸hb.lt;have bV:jX (∀W,(w.alloc (nH #[nk nI 0,nk nI 0,ny V 0 0,nk nI 0] TT)).alloc (nH #[nk nI 5,nk nI 0,ny V 0 0,nk nI 0] TT)=W->Hf w b g (g+2) s p l (ny V 0 0) [] 0 W):=jH λW h=>by
  subst h;have hal:=(jT w.heap.size w).alloc (jK _) (nH #[nk nI 0,nk nI 0,ny V 0 0,nk nI 0] TT);have bF:=nP.new w #[nk nI 0,nk nI 0,ny V 0 0,nk nI 0] TT;have bW:=hb.below hal;have bX:(w.alloc (nH #[nk nI 0,nk nI 0,ny V 0 0,nk nI 0] TT)).heap.size=g+1:=nT;generalize w.alloc (nH #[nk nI 0,nk nI 0,ny V 0 0,nk nI 0] TT)=w1 at*;have aQ:=(jT w1.heap.size w1).alloc (jK _) (nH #[nk nI 5,nk nI 0,ny V 0 0,nk nI 0] TT);have bG:=nP.new w1 #[nk nI 5,nk nI 0,ny V 0 0,nk nI 0] TT;rw[bX]at bG;rw[hg]at bF;refine⟨(pE.of hal).trans (pE.of aQ),bW.below aQ,⟨_,Below.blk aQ bF nL,rfl⟩,bG,vQ.nil _ _ _ _,hp,nL,nS,nS,nT⟩
 have hw0:w.heap.size<=g:=nL;have hb0:b<w.heap.size:=hb.lt;have bY:=jH bT;have aV:=jH hs;obtain⟨R,bL⟩:∃R,(if oP 125 (nQ s p)then U (.node ⟨5,0,0⟩ [],nQ s (p+1),l)else wP (rd D) (l+2) (nQ s p) l [] 0)=R:=⟨_,rfl⟩;have HR:=jH bL;rw[bL];obtain⟨df,bM⟩:=nV (tL R b s w);have HP:=jH bM;rw[bM];have HC:=jH (jU bU (jU hw0 hb0));clear bL bM bT hb hs hw0 hb0;obtain⟨dx,hi,bH,bI,bJ⟩:=info_parts Sv;go_in;go_upto_region 2 with fail;generalize (w.alloc (nH #[nk nI 0,nk nI 0,ny V 0 0,nk nI 0] TT)).alloc (nH #[nk nI 5,nk nI 0,ny V 0 0,nk nI 0] TT)=w1 at*;have bE:=jH (bV _ rfl)
 have aW:jX (jV jI 215 #[nA (U (Z b 0 V)),nk .u8 125] w1 λe w'=>e=nG (nC (oP 125 (nQ s p)))/\pE b w1 w'/\sQ w' b s (if oP 125 (nQ s p)then p+1 else p) l):=
  jH (uu b s p l 125 w1 aV hp bE.rd)
 clear bV;cases O:oP 125 (nQ s p)with
 |true=>
  rw[O]at aW HR;have aF:=jH (qK hp O);clear O;go_wp2_with fail;refine(aW).mono ?_;rintro e w2 ⟨rfl,A,C⟩;have F2:=jH (bE.sub A HC.1 (jK _) (show sQ w2 b s (p+1) l from by simpa using C) (by have:=aF.1;omega) nL);obtain⟨c0,c1,c2,c3,I,z3⟩:=F2.c0;obtain⟨⟨x0,r0⟩,⟨x1,r1⟩,⟨x2,r2⟩,⟨x3,r3⟩,y0,y1,y2,y3⟩:=F2.r0;clear A C;go_wp2_with fail;rw[oL];have J:=F2.K9 HC.2.1 HC.2.2 (jK _);simp only[show((0:Nat):Int)=0 from rfl]at J;obtain⟨e0,e1,e2,e3,hpost⟩:=J;refine jZ (v:=nE #[nD #[nk nI 5,nk nI 0,ny V 0 0,nk nI 0],nC true]) (by
   simp[kQ,Tryz.results216,go_sem,e0,e1,e2,e3]) rfl ?_
  rw[<-HP.out,<-HR.out];exact hpost
 |false=>
  rw[O]at aW HR;clear O;go_wp2_with fail;refine(aW).mono ?_;rintro e w2 ⟨rfl,A,C⟩;have F2:=jH (bE.sub A HC.1 (jK _) (show sQ w2 b s p l from by simpa using C) hp nL);clear A C aW bE;go_wp2_with fail
  go_loopw [7,8] (λ_ _ bN=>∃(f p l t:Nat) (v:jP) (L:List (qg TL)),jX (Hf w b g (g+2) s p l v L t bN)/\l<f/\jX (R=wP (rd D) f (nQ s p) l (L.map qg.tree) t)/\L.length+l<=63/\t<=L.length/\p<=s.size)
   (λ_ _ bN=>match bN.cell? (Z b 2 V)with|some v=>(kT v).toNat|none=>0)
  case atStart=>exact⟨l+2,p,l,0,ny V 0 0,[],jH F2.out,nL,jH (by rw[<-HR.out];simp),nT,nS,hp⟩
  case round=>
   clear F2 HR hp hl;obtain⟨f,p,l,t,v,L,F,dz,HR,bZ,cz,hp⟩:=hrel;obtain⟨f,rfl⟩:∃dh,f=dh+1:=⟨f - 1,nL⟩;have hl:l<=63:=nL;obtain⟨oa,cap,rfl⟩:=F.own.slice;obtain⟨c0,c1,c2,c3,I,z3⟩:=F.c0
   have aX:jX (jV jI 215 #[nA (U (Z b 0 V)),nk .u8 63] wr λe w'=>e=nG (nC (oP 63 (nQ s p)))/\pE b wr w'/\sQ w' b s (if oP 63 (nQ s p)then p+1 else p) l):=
    jH (uu b s p l 63 wr aV hp F.rd)
   have bK:jX (wr.cell? (Z b 2 V)=U (nk nI (l:Int))):=jH F.rd.c2;obtain⟨M,bO⟩:=nV L.length;have aG:=jH bO;have aH:jX (oP 63 (nQ s p)=true->mark (nQ s p) t=U (nQ s (p+1),t+1)/\p<s.size):=jH λh=>⟨He hp h,(qK hp h).1⟩
   have ai:jX (oP 63 (nQ s p)=false->mark (nQ s p) t=if 0<t then V else U (nQ s p,t)):=jH λh=>K6 h
   rw[bO]at bZ cz F c2;clear bO;cases O:oP 63 (nQ s p)with
   |true=>
    rw[O]at aX;have aF:=jH (aH O);clear O aH ai;go_wp2_with fail;refine(aX).mono ?_;rintro e w2 ⟨rfl,A,C⟩;have F2:=jH (F.sub A HC.1 (jK _) (show sQ w2 b s (p+1) l from by simpa using C) (by have:=aF.2;omega) nL);clear A C c0 c1 c2 c3 I z3 F;obtain⟨c0,c1,c2,c3,I,z3⟩:=F2.c0;go_upto_region 8 with fail;have aI:=jH (F2.more HC.1 (jK _) HC.2.1 nL);generalize w2.setCell (Z (g+1) 3 V) (nk nI ((t:Int)+1))=w3 at*;have Qo:=jH aF.1;have aY:p+1<=s.size:=by have:=aF.2;omega
    have ht1:t+1<=M+1:=nL;clear c0 c1 c2 c3 I z3 F2 aF;have aZ:=jH (bY (p+1) l w3 aY nL aI.rd);go_wp2_with fail;refine(aZ).mono ?_;rintro e w4 ⟨a,o,n,c,ok,p2,l2,rfl,aj,aJ,OG,hl4,hok,ak⟩;have F4:=jH (aI.sub aj HC.1 (jK _) aJ OG hl4);have bg:=jH aI.own.block;have bq:=jH aI.hB;have cK:=jH aj;clear aj aJ aZ;cases ok with
    |false=>
     have HN:=jH (ak rfl);clear hok ak;have F5:jX (∀o,Hf w b g (g+2) s p2 l2 (ny oa M cap) L (t+1) (w4.alloc o)):=jH λo=>by
      exact Sw
     exact YD
    |true=>
     have aK:=jH (hok rfl);clear hok ak;have F5:jX (∀W,w4.alloc (nH #[nk nI a.kind,nk nI a.size,ny o n c,nk nI a.tail] TT)=W->Hf w b g (g+2) s p2 l2 (ny oa M cap) L (t+1) W/\nP W w4.heap.size #[nk nI a.kind,nk nI a.size,ny o n c,nk nI a.tail] TT/\jS w4.heap.size w4 W):=jH λW h=>by
      exact YE
     go_upto_region 9 with fail;generalize w4.alloc (nH #[nk nI a.kind,nk nI a.size,ny o n c,nk nI a.tail] TT)=w5 at*;obtain⟨aL,Y,Q⟩:=F5.out _ rfl;have F6:=jH aL;obtain⟨c0,c1,c2,c3,I,z3⟩:=F6.c0;obtain⟨bP,bQ,bR,bS⟩:=Y.a4;have au:jX (∃sub,rd D (nQ s (p+1)) l=U (.node a sub,nQ s p2,l2)/\TL.wf a/\oh.nX w5 (λk=>g+2<=k/\(kM oa M cap).ownBlock≠U k) (ny o n c) sub):=jH (by
      obtain⟨sub,h1,h2,bu⟩:=aK.out;refine⟨sub,h1,h2,bu.keep Q.size (λk hk O=>⟨?_,λe=> ?_⟩) λk hk O=>Q.block k hk⟩;.have:=bq.out;omega
      .have:=(bg k e).2;omega)
     clear F5 aL Y Q F4 aK;obtain⟨sub,VO,av,aa⟩:=au.out;have VO:=jH VO;have aM:=jH av;have aN:=jH aa;have Y:g+2<=w5.heap.size:=F6.hB;have ax:=jH F6.own;have ay:=jH (WU _ _ _ _ VO).2.1;clear au av aa;go_upto_region 12 with(at_builtin;refine xB (S:=oh) Dn hi bH bI bJ rfl nO K7 rfl (.tmp 34) (.tmp 36) rfl (g+2) (ny oa M cap) L ⟨a,ny o n c,sub⟩ w5 _ rfl rfl ax rfl (by have:=aG.out;omega) nO Y aM aN ?_;intro g2 az aR ae af aA aB;have bz:aR.cell? (Z (g+1) 2 V)=U (ny oa M cap):=(af.cell (p:=(Z (g+1) 2 V)) (show g+1<g+2 by omega)).trans c2;have bA:aR.frozen? (Z (g+1) 2 V)=false:=(af.frozen (p:=(Z (g+1) 2 V)) (show g+1<g+2 by omega)).trans I)
     have aC:=jH (F6.grown HC.1 (jK _) HC.2.1 (by have:=aG.out;omega) ae af aA aB);generalize aR.setCell (Z (g+1) 2 V) (ny (U (Z g2 0 V)) (L.length+1) az)=aS at*;have aD:jX ((L++[(⟨a,ny o n c,sub⟩:qg TL)]).map qg.tree=L.map qg.tree++[.node a sub]):=jH (by simp[qg.tree]);have aO:jX ((L++[(⟨a,ny o n c,sub⟩:qg TL)]).length=M+1):=jH (by rw[j5,aG.out];rfl);obtain⟨aT,aP⟩:∃aT,L++[(⟨a,ny o n c,sub⟩:qg TL)]=aT:=⟨_,rfl⟩;rw[aP]at aD aO aC;have bB:=nM.x8 (nM.node a sub);have bC:l2<l:=by have:=ay.out;simp only at this;omega
     clear bz bA ae af aA aB c0 c1 c2 c3 I z3 bP bQ bR bS ax aN aM aP bB ay;rw[aG.out]at aC
     have ag:jX (jV jI 215 #[nA (U (Z b 0 V)),nk .u8 125] aS λe w'=>e=nG (nC (oP 125 (nQ s p2)))/\pE b aS w'/\sQ w' b s (if oP 125 (nQ s p2)then p2+1 else p2) l2):=
      jH (uu b s p2 l2 125 aS aV OG aC.rd)
     have bD:=jH (λh=>qK (c:=125) (s:=s) (p:=p2) OG h);have aU:=jH (λh=>qK (c:=44) (s:=s) (p:=p2) OG h);cases E:oP 125 (nQ s p2)with
     |true=>
      rw[E]at ag;have HQ1:=jH (bD E);clear E;go_wp2_with fail;refine(ag).mono ?_;rintro e ah ⟨rfl,N,Im⟩;have F8:=jH (aC.sub N HC.1 (jK _) (show sQ ah b s (p2+1) l2 from by simpa using Im) (by have:=HQ1.1;omega) nL);clear N Im;obtain⟨c0,c1,c2,c3,I,z3⟩:=F8.c0;obtain⟨⟨x0,r0⟩,⟨x1,r1⟩,⟨x2,r2⟩,⟨x3,r3⟩,y0,y1,y2,y3⟩:=F8.r0;rw[aG.out];go_wp2_with fail;rw[oL];have J:=F8.K9 HC.2.1 HC.2.2 (jK _);try simp only[show((0:Nat):Int)=0 from rfl]at J
      obtain⟨e0,e1,e2,e3,hpost⟩:=J;refine jZ (v:=nE #[nD #[nk nI 5,nk nI 0,ny (U (Z g2 0 V)) (M+1) az,nk nI ((t:Int)+1)],nC true]) (by simp[kQ,Tryz.results216,go_sem]at e0 e1 e2 e3⊢;simp[go_sem,e0,e1,e2,e3]) rfl ?_;have h1:=VO.out;rw[HQ1.2]at h1;rw[<-HP.out,HR.out,NN Qo.out h1,<-aD.out];exact hpost
     |false=>
      rw[E]at ag;have HQ1:=jH E;clear E;go_wp2_with fail;refine(ag).mono ?_;rintro e ah ⟨rfl,N,Im⟩;have F8:=jH (aC.sub N HC.1 (jK _) (show sQ ah b s p2 l2 from by simpa using Im) OG nL);clear N Im
      have CP3:jX (jV jI 215 #[nA (U (Z b 0 V)),nk .u8 44] ah λe w'=>e=nG (nC (oP 44 (nQ s p2)))/\pE b ah w'/\sQ w' b s (if oP 44 (nQ s p2)then p2+1 else p2) l2):=
       jH (uu b s p2 l2 44 ah aV OG F8.rd)
      cases hq2:oP 44 (nQ s p2)with
      |true=>
       rw[hq2]at CP3;have HQ2:=jH (aU hq2);clear hq2;go_wp2_with fail;refine(CP3).mono ?_;rintro e w9 ⟨rfl,hu9,Qi⟩;have F9:=jH (F8.sub hu9 HC.1 (jK _) (show sQ w9 b s (p2+1) l2 from by simpa using Qi) (by have:=HQ2.1;omega) nL);clear hu9 Qi;go_wp2_with fail;have h1:=VO.out;rw[HQ2.2]at h1;have bu:=aO.out;refine⟨⟨f,p2+1,l2,t+1,_,aT,jH F9.out,nL,jH (by rw[HR.out,Jw Qo.out h1,aD.out]),nL,nL,by have:=HQ2.1;omega⟩,?_⟩;have e1:=F9.rd.c2;have e2:=bK.out;simp only[e1,e2,kT,Int.toNat_natCast];exact bC
      |false=>
       exact YC
   |false=>
    rw[O]at aX;have aF:=jH (ai O);clear O aH ai;by_cases h0:0<t
    .have dA:decide (0<(t:Int))=true:=nT
     have dw:=jH h0;clear h0;go_wp2_with fail;refine(aX).mono ?_;rintro e w2 ⟨rfl,A,C⟩;have F2:=jH (F.sub A HC.1 (jK _) (show sQ w2 b s p l from by simpa using C) hp nL);clear A C c0 c1 c2 c3 I z3 F;obtain⟨c0,c1,c2,c3,I,z3⟩:=F2.c0;obtain⟨⟨x0,r0⟩,⟨x1,r1⟩,⟨x2,r2⟩,⟨x3,r3⟩,y0,y1,y2,y3⟩:=F2.r0;go_wp2_with fail;rw[oL];obtain⟨e0,e1,e2,e3,hpost⟩:=F2.K8 HC.2.1 HC.2.2;refine jZ (v:=nE #[nD #[nk nI 0,nk nI 0,ny V 0 0,nk nI 0],nC false]) (by simp[kQ,Tryz.results216,go_sem,e0,e1,e2,e3]) rfl ?_;rw[<-HP.out,HR.out,Qm (by rw[aF.out,if_pos dw.out])];exact hpost
    .obtain rfl:t=0:=nL
     clear h0;go_wp2_with fail;refine(aX).mono ?_;rintro e w2 ⟨rfl,A,C⟩;have F2:=jH (F.sub A HC.1 (jK _) (show sQ w2 b s p l from by simpa using C) hp nL);clear A C c0 c1 c2 c3 I z3 F;obtain⟨c0,c1,c2,c3,I,z3⟩:=F2.c0;go_upto_region 8 with fail;have Qo:jX (mark (nQ s p) 0=U (nQ s p,0)):=jH (by rw[aF.out];simp);have aI:=jH F2.out;generalize w2=w3 at*;have aY:p<=s.size:=hp;have ht1:0<=M+1:=nL;clear c0 c1 c2 c3 I z3 F2 aF;have aZ:=jH (bY (p) l w3 aY nL aI.rd);go_wp2_with fail;refine(aZ).mono ?_;rintro e w4 ⟨a,o,n,c,ok,p2,l2,rfl,aj,aJ,OG,hl4,hok,ak⟩;have F4:=jH (aI.sub aj HC.1 (jK _) aJ OG hl4);have bg:=jH aI.own.block;have bq:=jH aI.hB;have cK:=jH aj;clear aj aJ aZ;cases ok with
     |false=>
      have HN:=jH (ak rfl);clear hok ak;have F5:jX (∀o,Hf w b g (g+2) s p2 l2 (ny oa M cap) L (0) (w4.alloc o)):=jH λo=>by
       exact Sw
      exact YD
     |true=>
      have aK:=jH (hok rfl);clear hok ak;have F5:jX (∀W,w4.alloc (nH #[nk nI a.kind,nk nI a.size,ny o n c,nk nI a.tail] TT)=W->Hf w b g (g+2) s p2 l2 (ny oa M cap) L (0) W/\nP W w4.heap.size #[nk nI a.kind,nk nI a.size,ny o n c,nk nI a.tail] TT/\jS w4.heap.size w4 W):=jH λW h=>by
       exact YE
      go_upto_region 9 with fail;generalize w4.alloc (nH #[nk nI a.kind,nk nI a.size,ny o n c,nk nI a.tail] TT)=w5 at*;obtain⟨aL,Y,Q⟩:=F5.out _ rfl;have F6:=jH aL;obtain⟨c0,c1,c2,c3,I,z3⟩:=F6.c0;obtain⟨bP,bQ,bR,bS⟩:=Y.a4;have au:jX (∃sub,rd D (nQ s (p)) l=U (.node a sub,nQ s p2,l2)/\TL.wf a/\oh.nX w5 (λk=>g+2<=k/\(kM oa M cap).ownBlock≠U k) (ny o n c) sub):=jH (by
       obtain⟨sub,h1,h2,bu⟩:=aK.out;refine⟨sub,h1,h2,bu.keep Q.size (λk hk O=>⟨?_,λe=> ?_⟩) λk hk O=>Q.block k hk⟩;.have:=bq.out;omega
       .have:=(bg k e).2;omega)
      clear F5 aL Y Q F4 aK;obtain⟨sub,VO,av,aa⟩:=au.out;have VO:=jH VO;have aM:=jH av;have aN:=jH aa;have Y:g+2<=w5.heap.size:=F6.hB;have ax:=jH F6.own;have ay:=jH (WU _ _ _ _ VO).2.1;clear au av aa;go_upto_region 12 with(at_builtin;refine xB (S:=oh) Dn hi bH bI bJ rfl nO K7 rfl (.tmp 34) (.tmp 36) rfl (g+2) (ny oa M cap) L ⟨a,ny o n c,sub⟩ w5 _ rfl rfl ax rfl (by have:=aG.out;omega) nO Y aM aN ?_;intro g2 az aR ae af aA aB;have bz:aR.cell? (Z (g+1) 2 V)=U (ny oa M cap):=(af.cell (p:=(Z (g+1) 2 V)) (show g+1<g+2 by omega)).trans c2;have bA:aR.frozen? (Z (g+1) 2 V)=false:=(af.frozen (p:=(Z (g+1) 2 V)) (show g+1<g+2 by omega)).trans I)
      have aC:=jH (F6.grown HC.1 (jK _) HC.2.1 (by have:=aG.out;omega) ae af aA aB);generalize aR.setCell (Z (g+1) 2 V) (ny (U (Z g2 0 V)) (L.length+1) az)=aS at*;have aD:jX ((L++[(⟨a,ny o n c,sub⟩:qg TL)]).map qg.tree=L.map qg.tree++[.node a sub]):=jH (by simp[qg.tree]);have aO:jX ((L++[(⟨a,ny o n c,sub⟩:qg TL)]).length=M+1):=jH (by rw[j5,aG.out];rfl);obtain⟨aT,aP⟩:∃aT,L++[(⟨a,ny o n c,sub⟩:qg TL)]=aT:=⟨_,rfl⟩;rw[aP]at aD aO aC;have bB:=nM.x8 (nM.node a sub);have bC:l2<l:=by have:=ay.out;simp only at this;omega
      clear bz bA ae af aA aB c0 c1 c2 c3 I z3 bP bQ bR bS ax aN aM aP bB ay;rw[aG.out]at aC
      have ag:jX (jV jI 215 #[nA (U (Z b 0 V)),nk .u8 125] aS λe w'=>e=nG (nC (oP 125 (nQ s p2)))/\pE b aS w'/\sQ w' b s (if oP 125 (nQ s p2)then p2+1 else p2) l2):=
       jH (uu b s p2 l2 125 aS aV OG aC.rd)
      have bD:=jH (λh=>qK (c:=125) (s:=s) (p:=p2) OG h);have aU:=jH (λh=>qK (c:=44) (s:=s) (p:=p2) OG h);cases E:oP 125 (nQ s p2)with
      |true=>
       rw[E]at ag;have HQ1:=jH (bD E);clear E;go_wp2_with fail;refine(ag).mono ?_;rintro e ah ⟨rfl,N,Im⟩;have F8:=jH (aC.sub N HC.1 (jK _) (show sQ ah b s (p2+1) l2 from by simpa using Im) (by have:=HQ1.1;omega) nL);clear N Im;obtain⟨c0,c1,c2,c3,I,z3⟩:=F8.c0;obtain⟨⟨x0,r0⟩,⟨x1,r1⟩,⟨x2,r2⟩,⟨x3,r3⟩,y0,y1,y2,y3⟩:=F8.r0;rw[aG.out];go_wp2_with fail;rw[oL];have J:=F8.K9 HC.2.1 HC.2.2 (jK _);try simp only[show((0:Nat):Int)=0 from rfl]at J
       obtain⟨e0,e1,e2,e3,hpost⟩:=J;refine jZ (v:=nE #[nD #[nk nI 5,nk nI 0,ny (U (Z g2 0 V)) (M+1) az,nk nI 0],nC true]) (by simp[kQ,Tryz.results216,go_sem]at e0 e1 e2 e3⊢;simp[go_sem,e0,e1,e2,e3]) rfl ?_;have h1:=VO.out;rw[HQ1.2]at h1;rw[<-HP.out,HR.out,NN Qo.out h1,<-aD.out];exact hpost
      |false=>
       rw[E]at ag;have HQ1:=jH E;clear E;go_wp2_with fail;refine(ag).mono ?_;rintro e ah ⟨rfl,N,Im⟩;have F8:=jH (aC.sub N HC.1 (jK _) (show sQ ah b s p2 l2 from by simpa using Im) OG nL);clear N Im
       have CP3:jX (jV jI 215 #[nA (U (Z b 0 V)),nk .u8 44] ah λe w'=>e=nG (nC (oP 44 (nQ s p2)))/\pE b ah w'/\sQ w' b s (if oP 44 (nQ s p2)then p2+1 else p2) l2):=
        jH (uu b s p2 l2 44 ah aV OG F8.rd)
       cases hq2:oP 44 (nQ s p2)with
       |true=>
        rw[hq2]at CP3;have HQ2:=jH (aU hq2);clear hq2;go_wp2_with fail;refine(CP3).mono ?_;rintro e w9 ⟨rfl,hu9,Qi⟩;have F9:=jH (F8.sub hu9 HC.1 (jK _) (show sQ w9 b s (p2+1) l2 from by simpa using Qi) (by have:=HQ2.1;omega) nL);clear hu9 Qi;go_wp2_with fail;have h1:=VO.out;rw[HQ2.2]at h1;have bu:=aO.out;refine⟨⟨f,p2+1,l2,0,_,aT,jH F9.out,nL,jH (by rw[HR.out,Jw Qo.out h1,aD.out]),nL,nL,by have:=HQ2.1;omega⟩,?_⟩;have e1:=F9.rd.c2;have e2:=bK.out;simp only[e1,e2,kT,Int.toNat_natCast];exact bC
       |false=>
        exact YC
structure AP(w0:jJ)(b g:Nat)(s:ByteArray)(p l:Nat)(w:jJ):Prop where
 upd:pE b w0 w
 rd:sQ w b s p l
 box:w.cell? (Z g 0 V)=U (nA (U (Z b 0 V)))
 res:∃cs,nP w (g+1) cs TT/\cs.size=4
 hp:p<=s.size
 hl:l<=64
 hg:g+2<=w.heap.size
 h0:w0.heap.size=g
 hb:b<g
theorem AP.sub{w':jJ}{p l C E:Nat}(h:AP w0 b g s p l w)(A:pE b w w')(I:sQ w' b s C E)(hp:C<=s.size)(hl:E<=64):AP w0 b g s C E w':=by
 obtain⟨cs,h1,h2⟩:=h.res;have J:=h.hb;have hg:=h.hg;refine⟨h.upd.trans A,I,?_,⟨cs,A.blk h1 nL,h2⟩,hp,hl,jY h.hg A.size,h.h0,h.hb⟩;rw[World.cell?_of_block (w:=w) (A.block g nL (by simpa using by omega))];exact h.box
theorem AP.drewN{p l:Nat}(h:AP w0 b g s p l w)(n:Nat):AP w0 b g s p l (w.drewN n):=h.sub ((pE.refl _ _).drewN n) (h.rd.drewN n) h.hp h.hl
theorem AP.less{p l:Nat}(h:AP w0 b g s p l w)(h1:1<=l):AP w0 b g s p (l - 1) (w.setCell (Z b 2 V) (nk nI ((l:Int) - 1))):=by
 refine h.sub ((pE.refl _ _).set 2 _) ?_ h.hp (by have:=h.hl;omega);have:=h.rd.left (l - 1);rwa [show((l - 1:Nat):Int)=(l:Int) - 1 by omega]at this
theorem AP.next{p l:Nat}(h:AP w0 b g s p l w)(h1:p<s.size):AP w0 b g s (p+1) l (w.setCell (Z b 1 V) (nk nI ((p:Int)+1))):=by
 refine h.sub ((pE.refl _ _).set 1 _) ?_ nL h.hl;have:=h.rd.move (p+1);rwa [show((p+1:Nat):Int)=(p:Int)+1 by omega]at this
theorem AP.r0{p l:Nat}(h:AP w0 b g s p l w):(∃x,w.cell? (Z (g+1) 0 V)=U x)/\(∃x,w.cell? (Z (g+1) 1 V)=U x)/\(∃x,w.cell? (Z (g+1) 2 V)=U x)/\(∃x,w.cell? (Z (g+1) 3 V)=U x)/\
  w.frozen? (Z (g+1) 0 V)=false/\w.frozen? (Z (g+1) 1 V)=false/\w.frozen? (Z (g+1) 2 V)=false/\w.frozen? (Z (g+1) 3 V)=false:=by
 obtain⟨⟨l⟩,h1,h2⟩:=h.res
 match l,h2 with
 |[x,y,z,u],_=>exact⟨⟨x,h1.cell 0⟩,⟨y,h1.cell 1⟩,⟨z,h1.cell 2⟩,⟨u,h1.cell 3⟩,h1.free 0,h1.free 1,h1.free 2,h1.free 3⟩
theorem AP.start{p l:Nat}(I:sQ w b s p l)(hp:p<=s.size)(hl:l<=64):
  ∀W,(w.alloc (nH #[nA (U (Z b 0 V))] 206)).alloc (nH #[nk nI 0,nk nI 0,ny V 0 0,nk nI 0] TT)=W->AP w b w.heap.size s p l W:=by
 rintro W rfl;have C:=(jT w.heap.size w).alloc (jK _) (nH #[nA (U (Z b 0 V))] 206);have J:=nP.new w #[nA (U (Z b 0 V))] 206;have N:=I.below C;have O:(w.alloc (nH #[nA (U (Z b 0 V))] 206)).heap.size=w.heap.size+1:=nS;generalize w.alloc (nH #[nA (U (Z b 0 V))] 206)=w1 at*;have A:=(jT w1.heap.size w1).alloc (jK _) (nH #[nk nI 0,nk nI 0,ny V 0 0,nk nI 0] TT);have E:=nP.new w1 #[nk nI 0,nk nI 0,ny V 0 0,nk nI 0] TT;rw[O]at E;refine⟨(pE.of C).trans (pE.of A),N.below A,(Below.blk A J nL).cell 0,⟨_,E,rfl⟩,hp,hl,nT,rfl,I.lt⟩
theorem AP.far{p l:Nat}(h:AP w0 b g s p l w){k:Nat}(hk:g+2<=k)(i:Nat)(v:jP):AP w0 b g s p l (w.setCell (Z k i V) v):=by
 obtain⟨cs,h1,h2⟩:=h.res;have C:=h.hb;have A:=h.h0;refine⟨h.upd.Bu (a:=(Z k i V)) (show w0.heap.size<=k by omega) v,nP.setOther h.rd nT v,?_,⟨cs,h1.setOther nT v,h2⟩,h.hp,h.hl,by simpa [kz]using h.hg,A,h.hb⟩;rw[World.cell?_of_block (w:=w) (j6 _ _ _ _ nT)];exact h.box
theorem AP.alloc{p l:Nat}(h:AP w0 b g s p l w)(cs:Array jP)(t:ko):∀W,w.alloc (nH cs t)=W->AP w0 b g s p l W/\nP W w.heap.size cs t/\jS w.heap.size w W:=by
 rintro W rfl;have A:=(jT w.heap.size w).alloc (jK _) (nH cs t);exact⟨h.sub (pE.of A) (h.rd.below A) h.hp h.hl,nP.new w _ _,A⟩
theorem AP.fin{p l:Nat}(h:AP w0 b g s p l w)(a:TL)(o:Option lH)(n c:Nat)(ok:Bool)(h1:ok=true->∃sub,R=U (.node a sub,nQ s p,l)/\TL.wf a/\oh.nX w (λk=>g+2<=k) (ny o n c) sub)(h2:ok=false->R=V){A B C D:jP}(N:A=nk nI a.kind)(E:B=nk nI a.size)(O:C=ny o n c)(Q:D=nk nI a.tail):
  (qo w (g+1) A B C D).cell? (Z (g+1) 0 V)=U A/\(qo w (g+1) A B C D).cell? (Z (g+1) 1 V)=U B/\(qo w (g+1) A B C D).cell? (Z (g+1) 2 V)=U C/\(qo w (g+1) A B C D).cell? (Z (g+1) 3 V)=U D/\
   tL R b s w0 (nG (nE #[nD #[A,B,C,D],nC ok])) (qo w (g+1) A B C D):=by
 subst N E O Q;obtain⟨cs,I,J⟩:=h.res;have hB:=wF (a:=nk nI a.kind) (b:=nk nI a.size) (c:=ny o n c) (d:=nk nI a.tail) I J;have ag:=h.h0;have af:=h.hb;refine⟨hB.cell 0,hB.cell 1,hB.cell 2,hB.cell 3,a,o,n,c,ok,p,l,rfl,Dl h.upd nL,yU h.rd nL,h.hp,h.hl,λe=> ?_,h2⟩;obtain⟨sub,Y,aa,ae⟩:=h1 e;exact⟨sub,Y,aa,(wE ae (λk hk=>by omega)).keep (jK _) (λk _ hk=>by omega) λ_ _ _=>rfl⟩
theorem Sy(h:p:=by
 have e1:IntKind.i64.min= -9223372036854775808:=rfl;have e2:IntKind.i64.max=9223372036854775807:=rfl;simp[Lit.wf,e1,e2];omega):p:=h
theorem Hg{k:Int}(h0:0<=k)(h1:k<=65536):(lI nI k).wf=true:=by
 exact Sy
theorem Jy{k z t:Int}(h:(0<=k/\k<=65536)/\(0<=z/\z<=65536)/\(0<=t/\t<=65536)):TL.wf ⟨k,z,t⟩:=⟨Hg h.1.1 h.1.2,Hg h.2.1.1 h.2.1.2,Hg h.2.2.1 h.2.2.2⟩
theorem Dp(S:Shape TL)(w:jJ)(Q:Nat->Prop):S.nX w Q (ny V 0 0) []:=⟨V,0,rfl,jK _,kH _,λh=>absurd h nS⟩
theorem NQ{Q:Nat->Prop}{k:Nat}{a:TL}{o:Option lH}{c:Nat}{sub:List (nM TL)}(hB:nP w k #[nk nI a.kind,nk nI a.size,ny o n c,nk nI a.tail] TT)(A:TL.wf a)(hs:oh.nX w Q (ny o n c) sub)(C:Q k):oh.nX w Q (ny (U (Z k 0 V)) 1 1) [.node a sub]:=by
 refine⟨U (Z k 0 V),1,rfl,jK _,by unfold j3;decide,λ_=>⟨k,0,rfl,hB.lt,C,?_⟩⟩;simp only[Shape.qy,Shape.rz,and_true];refine⟨A,ny o n c,λj E=> ?_,hs⟩;have I:j<4:=E;rw[hB.cell];have:j=0\/j=1\/j=2\/j=3:=nL;rcases this with rfl|rfl|rfl|rfl<;>rfl
theorem a1N(D:Nat)(s:ByteArray)(p l:Nat)(hp:p<s.size)(hl:1<=l)(b:UInt8)(hb:s[p]=b):rd (D+1) (nQ s p) l=
  if b=117 then(num 64 (nQ s (p+1))).bind λq=>if q.1 % 8=0 then U (.node ⟨1,(q.1/8:Nat),0⟩ [],q.2,l - 1)else V
  else if b=98 then(num 65536 (nQ s (p+1))).bind λq=>U (.node ⟨2,q.1,0⟩ [],q.2,l - 1)
  else if b=115 then(num 65536 (nQ s (p+1))).bind λq=>U (.node ⟨3,q.1,0⟩ [],q.2,l - 1)
  else if b=91 then(rd D (nQ s (p+1)) (l - 1)).bind λy=>match y.2.1 with
    |58::r2=>(num 1024 r2).bind λq=>match q.2 with
     |93::r4=>U (.node ⟨4,q.1,0⟩ [y.1],r4,y.2.2)
     |_=>V
    |_=>V
  else if b=123 then(if oP 125 (nQ s (p+1))then U (.node ⟨5,0,0⟩ [],nQ s (p+2),l - 1)else wP (rd D) (l+1) (nQ s (p+1)) (l - 1) [] 0)
  else V:=by
 rw[qY hp,hb];simp only[rd];rw[if_neg nL];split;.rfl
 split;.rfl
 split;.rfl
 split;.rfl
 split
 .cases A:oP 125 (nQ s (p+1))with
  |true=>
   obtain⟨h1,h2⟩:=qK nL A;rw[h2];rfl
  |false=>
   split;.rename_i r e;exact(sO A e).elim
   .simp
 .rfl
theorem a4z(D:Nat)(s:ByteArray)(p l:Nat)(hp:p<=s.size)(h:l=0\/p=s.size):rd (D+1) (nQ s p) l=V:=by
 simp only[rd];split;.rfl
 .rcases h with h|h
  .omega
  .rw[rY nL]
theorem La(h:p:=by
 refine jZ (v:=nE #[nD #[nk nI 0,nk nI 0,ny V 0 0,nk nI 0],nC false]) (by simp[kQ,Tryz.results171,go_sem,e0,e1,e2,e3]) rfl ?_;rw[<-HP.out];exact hpost):p:=h
theorem a1O(b:Nat)(s:ByteArray)(hs:s.size<=j3):∀(D dep p l:Nat)(w:jJ),dep+D=9->p<=s.size->l<=64->sQ w b s p l->
  jV jI 171 #[nA (U (Z b 0 V)),nk nI (dep:Int)] w (tL (rd D (nQ s p) l) b s w):=by
 intro D;induction D with
 |zero=>
  intro dep p l w hd hp hl hb;have fM:decide (8<(dep:Int))=true:=nT;have bU:=jH (AP.start hb hp hl);have dz:jX (rd 0 (nQ s p) l=V):=jH rfl;obtain⟨g,hg⟩:=nV w.heap.size;rw[hg]at bU;have dE:=jH hd;obtain⟨R,dA⟩:=nV (rd 0 (nQ s p) l);rw[dA]at dz⊢;obtain⟨fO,bV⟩:=nV (tL R b s w);have HP:=jH bV;rw[bV];clear hb hd dA bV;go_in;go_upto_region 1 with fail;generalize (w.alloc (nH #[nA (U (Z b 0 V))] 206)).alloc (nH #[nk nI 0,nk nI 0,ny V 0 0,nk nI 0] TT)=w1 at*;have G:=jH (bU _ rfl);obtain⟨⟨ai,r0⟩,⟨x1,r1⟩,⟨x2,r2⟩,⟨x3,r3⟩,aj,ak,y2,au⟩:=G.r0;go_quiet (fail);go_wp2_with fail;rw[oL];obtain⟨e0,e1,e2,e3,hpost⟩:=(G.drewN nq).fin (A:=nk nI 0) (B:=nk nI 0) (C:=ny V 0 0) (D:=nk nI 0) ⟨0,0,0⟩ V 0 0 false (λh=>by cases h) (λ_=>dz.out) rfl rfl rfl rfl;exact La
 |succ D gm=>
  intro dep p l w hd hp hl hb;have fM:decide (8<(dep:Int))=false:=nT;have bU:=jH (AP.start hb hp hl);obtain⟨g,hg⟩:=nV w.heap.size;rw[hg]at bU;have dE:=jH hd;have bW:dep<=8:=nL;have eu:=jH gm;have bE:=jH hs;obtain⟨R,dA⟩:=nV (rd (D+1) (nQ s p) l);have dz:=jH dA;have bX:=jH (a4z D s p l hp);rw[dA];obtain⟨fO,bV⟩:=nV (tL R b s w);have HP:=jH bV;rw[bV];have eQ:s.size<=9223372036854775807:=by unfold j3 at hs;omega
  clear hb hd dA bV gm hs;by_cases bF:l=0\/p=s.size
  .have bY:jX (R=V):=jH (by rw[<-dz.out];exact bX bF)
   have e1:((l:Int)==0)=decide (l=0):=by rw[Bool.eq_iff_iff];simp
   have e2:((p:Int)==s.size)=decide (p=s.size):=by rw[Bool.eq_iff_iff];simp;omega
   have eB:(((l:Int)==0)=true)\/(((l:Int)==0)=false/\((p:Int)==s.size)=true):=by
    rcases bF with h|h
    .exact .inl (by rw[e1];simp[h])
    .by_cases h0:l=0
     .exact .inl (by rw[e1];simp[h0])
     .exact .inr ⟨by rw[e1];simp[h0],by rw[e2];simp[h]⟩
   clear bF bX e1 e2;go_in;go_upto_region 1 with fail;generalize (w.alloc (nH #[nA (U (Z b 0 V))] 206)).alloc (nH #[nk nI 0,nk nI 0,ny V 0 0,nk nI 0] TT)=w1 at*;have G:=jH (bU _ rfl);obtain⟨⟨ai,r0⟩,⟨x1,r1⟩,⟨x2,r2⟩,⟨x3,r3⟩,aj,ak,y2,au⟩:=G.r0;have b0:=G.box;obtain⟨c0,c1,c2⟩:=G.rd.a3;rcases eB with fP|⟨fP,gp⟩
   all_goals
    go_quiet (fail);go_wp2_with fail;rw[oL];obtain⟨e0,e1,e2,e3,hpost⟩:=(G.drewN nq).fin (A:=nk nI 0) (B:=nk nI 0) (C:=ny V 0 0) (D:=nk nI 0) ⟨0,0,0⟩ V 0 0 false (λh=>by cases h) (λ_=>bY.out) rfl rfl rfl rfl;refine jZ (v:=nE #[nD #[nk nI 0,nk nI 0,ny V 0 0,nk nI 0],nC false]) (by simp[kQ,Tryz.results171,go_sem,e0,e1,e2,e3]) rfl ?_;rw[<-HP.out];exact hpost
  .have df:1<=l:=nL
   have eT:p<s.size:=nL;have fP:((l:Int)==0)=false:=nT;have gp:((p:Int)==s.size)=false:=nT;have dh:=jH (a1N D s p l eT df s[p] rfl);clear bF bX;go_in;go_upto_region 1 with fail;generalize (w.alloc (nH #[nA (U (Z b 0 V))] 206)).alloc (nH #[nk nI 0,nk nI 0,ny V 0 0,nk nI 0] TT)=w1 at*;have G:=jH (bU _ rfl);have b0:=G.box;obtain⟨c0,c1,c2⟩:=G.rd.a3;have f2:=nP.free G.rd 2;clear bU;go_quiet (fail);go_upto_region 4 with fail;refine uR (λW=>AP w b g s p (l - 1) W) ((G.drewN _).less df) ?_;intro w2 eU;have dF:=jH eU;clear G b0 c0 c1 c2 f2 eU;have b0:=dF.box;obtain⟨c0,c1⟩:=dF.rd.a2;have f1:=nP.free dF.rd 1;go_quiet (fail);go_upto_region 7 with fail;refine uR (λW=>AP w b g s (p+1) (l - 1) W) ((dF.drewN _).next eT) ?_;intro w3 eX;have Y:=jH eX;obtain⟨q,aB⟩:=nV (p+1);obtain⟨m,eD⟩:=nV (l - 1);have fQ:=jH aB;have fT:=jH eD;have dG:m<=63:=nL;have aO:q<=s.size:=nL;rw[aB,eD]at Y;have I:=jH (dz.symm.trans dh);rw[aB,eD]at I;clear dF b0 c0 c1 f1 eX aB eD dh dz fP gp;have b0:=Y.box;obtain⟨⟨ai,r0⟩,⟨x1,r1⟩,⟨x2,r2⟩,⟨x3,r3⟩,aj,ak,y2,au⟩:=Y.r0;have hk:jX (∀c:UInt8,s[p]≠c->((s[p].toNat:Int)==(c.toNat:Int))=false):=jH λc h=>by
    rw[beq_eq_false_iff_ne];intro iD;exact h (lX.1 nL)
   by_cases aI:s[p]=117
   .have dB:((s[p].toNat:Int)==117)=true:=by rw[aI];rfl
    have O:=jH I.out;rw[if_pos aI]at O;have aP:jX (jV jI 213 #[nk nI 1,nk nI 64,nA (U (Z g 0 V))] w3 (yw 1 b s q m 64 w3)):=jH (Dm 1 b g s q m 64 w3 bE aO nO Y.rd Y.box);clear aI I hk;go_wp2_with fail;refine(aP).mono ?_;rintro e w4 ⟨n,ok,aa,rfl,ae,af,ag,eY,hok,Q⟩;have aA:=jH (Y.sub ae af ag nL);have J:=jH (jU hok Q);have aY:=jH (aA.alloc #[nk nI 1,nk nI (n:Int),ny V 0 0,nk nI 0] TT);clear ae af hok Q aP Y b0 ai r0 x1 r1 x2 r2 x3 r3 aj ak y2 au;go_upto_region 10 with fail;generalize w4.alloc (nH #[nk nI 1,nk nI (n:Int),ny V 0 0,nk nI 0] TT)=w5 at*;obtain⟨aZ,az,_⟩:=aY.out _ rfl;have av:=jH aZ;have bg:=jH az;obtain⟨⟨ai,r0⟩,⟨x1,r1⟩,⟨x2,r2⟩,⟨x3,r3⟩,aj,ak,y2,au⟩:=av.r0;have bZ:=az.c0;have bG:=az.c1;have cz:=az.c2;have cK:=az.c3;have gq:=az.free 1;have aQ:g+2<=w4.heap.size:=aA.hg;clear aZ az aY;cases ok with
    |true=>
     go_upto_region 12 with fail;refine uR (λW=>AP w b g s aa m W/\nP W w4.heap.size #[nk nI 1,nk nI ((n/8:Nat):Int),ny V 0 0,nk nI 0] TT) ⟨av.far aQ _ _,by simpa using bg.set 1 (nk nI ((n/8:Nat):Int))⟩ ?_;rintro bH ⟨bN,bO⟩;have aF:=jH bN;clear bZ bG cz cK gq ai r0 x1 r1 x2 r2 x3 r3 aj ak y2 au;obtain⟨⟨ai,r0⟩,⟨x1,r1⟩,⟨x2,r2⟩,⟨x3,r3⟩,aj,ak,y2,au⟩:=aF.r0;obtain⟨bZ,bG,cz,cK⟩:=bO.a4;obtain⟨nd,aR⟩:=nV (n/8);rw[aR]at bG;have eZ:=jH aR;have fU:nd<=64:=nL;clear bN bO aR;go_wp2_with fail;have aC:((n:Int) % 8==0)=true->∃sub,R=U (.node ⟨1,(nd:Int),0⟩ sub,nQ s aa,m)/\TL.wf ⟨1,(nd:Int),0⟩/\oh.nX bH (λk=>g+2<=k) (ny V 0 0) sub:=λh=>by
      have h1:=J.1 (by trivial);refine⟨[],?_,Jy nL,Dp _ _ _⟩;rw[O.out,h1,kD,if_pos (by simp at h;omega),eZ.out]
     have E:((n:Int) % 8==0)=false->R=V:=λh=>by
      have h1:=J.1 (by trivial);rw[O.out,h1,kD,if_neg (by simp at h;omega)]
     rw[oL];obtain⟨e0,e1,e2,e3,hpost⟩:=aF.fin (A:=nk nI 1) (B:=nk nI (nd:Int)) (C:=ny V 0 0) (D:=nk nI 0) ⟨1,(nd:Int),0⟩ V 0 0 ((n:Int) % 8==0) aC E rfl rfl rfl rfl;refine jZ (v:=nE #[nD #[nk nI 1,nk nI (nd:Int),ny V 0 0,nk nI 0],nC ((n:Int) % 8==0)]) (by simp[kQ,Tryz.results171,go_sem,e0,e1,e2,e3]) rfl ?_;rw[<-HP.out];exact hpost
    |false=>
     go_upto_region 12 with fail;refine uR (λW=>AP w b g s aa m W/\nP W w4.heap.size #[nk nI 1,nk nI ((n/8:Nat):Int),ny V 0 0,nk nI 0] TT) ⟨av.far aQ _ _,by simpa using bg.set 1 (nk nI ((n/8:Nat):Int))⟩ ?_;rintro bH ⟨bN,bO⟩;have aF:=jH bN;clear bZ bG cz cK gq ai r0 x1 r1 x2 r2 x3 r3 aj ak y2 au;obtain⟨⟨ai,r0⟩,⟨x1,r1⟩,⟨x2,r2⟩,⟨x3,r3⟩,aj,ak,y2,au⟩:=aF.r0;obtain⟨bZ,bG,cz,cK⟩:=bO.a4;obtain⟨nd,aR⟩:=nV (n/8);rw[aR]at bG;have eZ:=jH aR;have fU:nd<=64:=nL;clear bN bO aR;go_wp2_with fail;have E:R=V:=by rw[O.out,J.2 (by trivial)];rfl
     rw[oL];obtain⟨e0,e1,e2,e3,hpost⟩:=aF.fin (A:=nk nI 1) (B:=nk nI (nd:Int)) (C:=ny V 0 0) (D:=nk nI 0) ⟨1,(nd:Int),0⟩ V 0 0 false (λh=>by cases h) (λ_=>E) rfl rfl rfl rfl;refine jZ (v:=nE #[nD #[nk nI 1,nk nI (nd:Int),ny V 0 0,nk nI 0],nC false]) (by simp[kQ,Tryz.results171,go_sem,e0,e1,e2,e3]) rfl ?_;rw[<-HP.out];exact hpost
   have dH:((s[p].toNat:Int)==117)=false:=hk.out 117 aI;have bI:=jH I.out;rw[if_neg aI]at bI;clear aI I;have I:=bI;clear bI;by_cases bq:s[p]=98
   .have dB:((s[p].toNat:Int)==98)=true:=by rw[bq];rfl
    have O:=jH I.out;rw[if_pos bq]at O;have aP:jX (jV jI 213 #[nk nI 2,nk nI 65536,nA (U (Z g 0 V))] w3 (yw 2 b s q m 65536 w3)):=jH (Dm 2 b g s q m 65536 w3 bE aO nO Y.rd Y.box);clear bq I hk;go_wp2_with fail;refine(aP).mono ?_;rintro e w4 ⟨n,ok,aa,rfl,ae,af,ag,eY,hok,Q⟩;have aA:=jH (Y.sub ae af ag nL);have J:=jH (jU hok Q);clear ae af hok Q aP Y b0 ai r0 x1 r1 x2 r2 x3 r3 aj ak y2 au;obtain⟨⟨ai,r0⟩,⟨x1,r1⟩,⟨x2,r2⟩,⟨x3,r3⟩,aj,ak,y2,au⟩:=aA.r0;go_wp2_with fail;have aC:ok=true->∃sub,R=U (.node ⟨2,(n:Int),0⟩ sub,nQ s aa,m)/\TL.wf ⟨2,(n:Int),0⟩/\oh.nX w4 (λk=>g+2<=k) (ny V 0 0) sub:=λh=>by
     refine⟨[],?_,Jy nL,Dp _ _ _⟩;rw[O.out,J.1 h];rfl
    have E:ok=false->R=V:=λh=>by rw[O.out,J.2 h];rfl
    rw[oL];obtain⟨e0,e1,e2,e3,hpost⟩:=aA.fin (A:=nk nI 2) (B:=nk nI (n:Int)) (C:=ny V 0 0) (D:=nk nI 0) ⟨2,(n:Int),0⟩ V 0 0 ok aC E rfl rfl rfl rfl;refine jZ (v:=nE #[nD #[nk nI 2,nk nI (n:Int),ny V 0 0,nk nI 0],nC ok]) (by simp[kQ,Tryz.results171,go_sem,e0,e1,e2,e3]) rfl ?_;rw[<-HP.out];exact hpost
   have fq:((s[p].toNat:Int)==98)=false:=hk.out 98 bq;have aS:=jH I.out;rw[if_neg bq]at aS;clear bq I;have I:=aS;clear aS;by_cases aJ:s[p]=115
   .have dB:((s[p].toNat:Int)==115)=true:=by rw[aJ];rfl
    have O:=jH I.out;rw[if_pos aJ]at O;have aP:jX (jV jI 213 #[nk nI 3,nk nI 65536,nA (U (Z g 0 V))] w3 (yw 3 b s q m 65536 w3)):=jH (Dm 3 b g s q m 65536 w3 bE aO nO Y.rd Y.box);clear aJ I hk;go_wp2_with fail;refine(aP).mono ?_;rintro e w4 ⟨n,ok,aa,rfl,ae,af,ag,eY,hok,Q⟩;have aA:=jH (Y.sub ae af ag nL);have J:=jH (jU hok Q);clear ae af hok Q aP Y b0 ai r0 x1 r1 x2 r2 x3 r3 aj ak y2 au;obtain⟨⟨ai,r0⟩,⟨x1,r1⟩,⟨x2,r2⟩,⟨x3,r3⟩,aj,ak,y2,au⟩:=aA.r0;go_wp2_with fail;have aC:ok=true->∃sub,R=U (.node ⟨3,(n:Int),0⟩ sub,nQ s aa,m)/\TL.wf ⟨3,(n:Int),0⟩/\oh.nX w4 (λk=>g+2<=k) (ny V 0 0) sub:=λh=>by
     refine⟨[],?_,Jy nL,Dp _ _ _⟩;rw[O.out,J.1 h];rfl
    have E:ok=false->R=V:=λh=>by rw[O.out,J.2 h];rfl
    rw[oL];obtain⟨e0,e1,e2,e3,hpost⟩:=aA.fin (A:=nk nI 3) (B:=nk nI (n:Int)) (C:=ny V 0 0) (D:=nk nI 0) ⟨3,(n:Int),0⟩ V 0 0 ok aC E rfl rfl rfl rfl;refine jZ (v:=nE #[nD #[nk nI 3,nk nI (n:Int),ny V 0 0,nk nI 0],nC ok]) (by simp[kQ,Tryz.results171,go_sem,e0,e1,e2,e3]) rfl ?_;rw[<-HP.out];exact hpost
   have dI:((s[p].toNat:Int)==115)=false:=hk.out 115 aJ;have bJ:=jH I.out;rw[if_neg aJ]at bJ;clear aJ I;have I:=bJ;clear bJ;by_cases bu:s[p]=91
   .have dB:((s[p].toNat:Int)==91)=true:=by rw[bu];rfl
    have O:=jH I.out;rw[if_pos bu]at O;have gu:jX (jV jI 171 #[nA (U (Z b 0 V)),nk nI ((dep:Int)+1)] w3 (tL (rd D (nQ s q) m) b s w3)):=jH (eu (dep+1) q m w3 (by have:=dE.out;omega) aO nL Y.rd);clear bu I hk;have bP:=jH Y.hg;go_wp2_with fail;refine(gu).mono ?_;rintro e w4 ⟨a,o,n,c,ok,aa,ax,rfl,ae,af,ag,aG,hok,Q⟩;have aA:=jH (Y.sub ae af ag aG);have J:=jH (jU hok Q);have aY:=jH (aA.alloc #[nk nI a.kind,nk nI a.size,ny o n c,nk nI a.tail] TT);clear ae af hok Q gu Y b0 ai r0 x1 r1 x2 r2 x3 r3 aj ak y2 au;go_upto_region 19 with fail;generalize w4.alloc (nH #[nk nI a.kind,nk nI a.size,ny o n c,nk nI a.tail] TT)=w5 at*;obtain⟨aZ,az,bK⟩:=aY.out _ rfl;have av:=jH aZ;have bg:=jH az;have b0:=av.box;have aQ:g+2<=w4.heap.size:=aA.hg;cases ok with
    |false=>
     clear aZ az aY bK;obtain⟨⟨ai,r0⟩,⟨x1,r1⟩,⟨x2,r2⟩,⟨x3,r3⟩,aj,ak,y2,au⟩:=av.r0;have E:R=V:=by rw[O.out,J.2 (by trivial)];rfl
     have bY:=jH E;clear E;go_wp2_with fail;rw[oL];obtain⟨e0,e1,e2,e3,hpost⟩:=av.fin (A:=nk nI 0) (B:=nk nI 0) (C:=ny V 0 0) (D:=nk nI 0) ⟨0,0,0⟩ V 0 0 false (λh=>by cases h) (λ_=>bY.out) rfl rfl rfl rfl;exact La
    |true=>
     have dJ:jX (∃sub,rd D (nQ s q) m=U (.node a sub,nQ s aa,ax)/\TL.wf a/\oh.nX w5 (λk=>g+2<=k/\k<w4.heap.size) (ny o n c) sub):=jH (by
      obtain⟨sub,h1,h2,bL⟩:=J.1 (by trivial);exact⟨sub,h1,h2,bL.keep bK.size (λk hk aB=>⟨jY bP aB,hk⟩) λk hk aB=>bK.block k hk⟩)
     clear aZ az aY bK J;obtain⟨sub,aL,dK,dw⟩:=dJ.out;have aL:=jH aL;have dL:=jH dK;have dM:=jH dw;clear dJ dK dw
     have dC:jX (jV jI 215 #[nA (U (Z b 0 V)),nk .u8 58] w5 λe w'=>e=nG (nC (oP 58 (nQ s aa)))/\pE b w5 w'/\sQ w' b s (if oP 58 (nQ s aa)then aa+1 else aa) ax):=
      jH (uu b s aa ax 58 w5 bE ag av.rd)
     have bz:=jH (λh=>qK (c:=58) (s:=s) (p:=aa) ag h);cases bA:oP 58 (nQ s aa)with
     |false=>
      rw[bA]at dC;have aM:=jH bA;clear bA;have E:R=V:=by
       rw[O.out,aL.out];simp only[kD];split;.rename_i r2 e2;exact(sO aM e2).elim
       .rfl
      have bY:=jH E;clear E;go_wp2_with fail;refine(dC).mono ?_;rintro e bH ⟨rfl,aH,bQ⟩;have aF:=jH (av.sub aH (show sQ bH b s aa ax from by simpa using bQ) ag aG);clear aH bQ dC b0;obtain⟨⟨ai,r0⟩,⟨x1,r1⟩,⟨x2,r2⟩,⟨x3,r3⟩,aj,ak,y2,au⟩:=aF.r0;go_wp2_with fail;rw[oL];obtain⟨e0,e1,e2,e3,hpost⟩:=aF.fin (A:=nk nI 0) (B:=nk nI 0) (C:=ny V 0 0) (D:=nk nI 0) ⟨0,0,0⟩ V 0 0 false (λh=>by cases h) (λ_=>bY.out) rfl rfl rfl rfl;exact La
     |true=>
      rw[bA]at dC;have aM:=jH (bz bA);clear bA bz;go_wp2_with fail;refine(dC).mono ?_;rintro e bH ⟨rfl,aH,bQ⟩;have dx:aa+1<=s.size:=by have:=aM.1;omega
      have aF:=jH (av.sub aH (show sQ bH b s (aa+1) ax from by simpa using bQ) dx aG);have dN:=jH (aH.blk bg (by have:=av.hb;omega));have dO:=jH (Shape.nX.keep dM aH.size (λ_ _ h=>h) λk hk aB=>aH.block k hk (by simpa using by have:=av.hb;omega));have fu:=jH aH.size;have aP:jX (jV jI 213 #[nk nI 4,nk nI 1024,nA (U (Z g 0 V))] bH (yw 4 b s (aa+1) ax 1024 bH)):=jH (Dm 4 b g s (aa+1) ax 1024 bH bE dx nO aF.rd aF.box);clear aH bQ dC b0;go_wp2_with fail;refine(aP).mono ?_;rintro e ay ⟨ah,gy,aT,rfl,bB,fw,bR,fA,hok,Q⟩;have eF:=jH (aF.sub bB fw bR aG);have J:=jH (jU hok Q);have bS:=jH (bB.blk dN (by have:=av.hb;omega));have dP:=jH (Shape.nX.keep dO bB.size (λ_ _ h=>h) λk hk aB=>bB.block k hk (by simpa using by have:=av.hb;omega));have fB:=jH bB.size;have fC:=jH (eF.alloc #[nk nI 4,nk nI (ah:Int),ny V 0 0,nk nI 0] TT);clear bB fw hok Q aP;go_upto_region 22 with fail;generalize ay.alloc (nH #[nk nI 4,nk nI (ah:Int),ny V 0 0,nk nI 0] TT)=N at*;obtain⟨fD,bT,bM⟩:=fC.out _ rfl;have fE:=jH (Below.blk bM bS bS.lt);have fF:=jH (Shape.nX.keep dP bM.size (λ_ _ h=>h) λk hk _=>bM.block k hk);have fG:=jH bT;have gz:=jH fD;have dQ:ay.heap.size<N.heap.size:=bT.lt;have dR:w4.heap.size<ay.heap.size:=bS.lt;obtain⟨bZ,bG,cz,cK⟩:=fE.a4;have ib:=bT.c2;have ig:=bT.free 2;have dS:g+2<=ay.heap.size:=eF.hg
      have fH:jX (∀W,(N.setCell (Z ay.heap.size 2 V) (ny (U (Z N.heap.size 0 V)) 1 1)).alloc (nH #[nk nI a.kind,nk nI a.size,ny o n c,nk nI a.tail] TT)=W->
        (AP w b g s aT ax W/\nP W ay.heap.size #[nk nI 4,nk nI (ah:Int),ny (U (Z N.heap.size 0 V)) 1 1,nk nI 0] TT/\oh.nX W (λk=>g+2<=k) (ny (U (Z N.heap.size 0 V)) 1 1) [.node a sub])):=jH λW h=>by
       have ik:=gz.far dS 2 (ny (U (Z N.heap.size 0 V)) 1 1);have gB:nP (N.setCell (Z ay.heap.size 2 V) (ny (U (Z N.heap.size 0 V)) 1 1)) ay.heap.size #[nk nI 4,nk nI (ah:Int),ny (U (Z N.heap.size 0 V)) 1 1,nk nI 0] TT:=by simpa using fG.set 2 (ny (U (Z N.heap.size 0 V)) 1 1)
       have iq:=Shape.nX.keep (w':=N.setCell (Z ay.heap.size 2 V) (ny (U (Z N.heap.size 0 V)) 1 1)) fF (by simp[kz]) (λ_ _ h=>h) λk hk aB=>j6 _ _ _ _ nT
       have sz:(N.setCell (Z ay.heap.size 2 V) (ny (U (Z N.heap.size 0 V)) 1 1)).heap.size=N.heap.size:=by simp[kz]
       obtain⟨h1,h2,bL⟩:=ik.alloc _ _ W h;rw[sz]at h2;have iw:=iq.keep (Q':=λk=>g+2<=k) bL.size (λk _ aB=>aB.1) λk hk _=>bL.block k hk
       exact⟨h1,Below.blk bL gB gB.lt,NQ h2 dL iw nL⟩
      clear fD bT bM fC;go_upto_region 23 with fail;refine uR (λW=>AP w b g s aT ax W/\nP W ay.heap.size #[nk nI 4,nk nI (ah:Int),ny (U (Z N.heap.size 0 V)) 1 1,nk nI 0] TT/\oh.nX W (λk=>g+2<=k) (ny (U (Z N.heap.size 0 V)) 1 1) [.node a sub]) (fH _ rfl) ?_;rintro aN ⟨fI,dU,fJ⟩;have eG:=jH fI;have fK:=jH dU;have gD:=jH fJ;have iy:ay.heap.size<aN.heap.size:=dU.lt;clear bZ bG cz cK ib ig fH fI dU fJ gz fE fF fG;have b0:=eG.box;obtain⟨⟨ai,r0⟩,⟨x1,r1⟩,⟨x2,r2⟩,⟨x3,r3⟩,aj,ak,y2,au⟩:=eG.r0;obtain⟨bZ,bG,cz,cK⟩:=fK.a4;have dV:g+2<=ay.heap.size:=nL;cases gy with
      |false=>
       have E:R=V:=by
        rw[O.out,aL.out];simp only[kD,aM.2,J.2 rfl];rfl
       have bY:=jH E;clear E;go_big_region;go_wp2_with fail;rw[oL,show∀A B C D,(qo aN (g+1) A B C D).drew=qo (aN.drewN 1) (g+1) A B C D from λ_ _ _ _=>rfl];obtain⟨e0,e1,e2,e3,hpost⟩:=(eG.drewN 1).fin (A:=nk nI 4) (B:=nk nI (ah:Int)) (C:=ny (U (Z N.heap.size 0 V)) 1 1) (D:=nk nI 0) ⟨4,(ah:Int),0⟩ (U (Z N.heap.size 0 V)) 1 1 false (λh=>by cases h) (λ_=>bY.out) rfl rfl rfl rfl;refine jZ (v:=nE #[nD #[nk nI 4,nk nI (ah:Int),ny (U (Z N.heap.size 0 V)) 1 1,nk nI 0],nC false]) (by simp[kQ,Tryz.results171,go_sem,e0,e1,e2,e3]) rfl ?_;rw[<-HP.out];exact hpost
      |true=>
       have eH:jX (AP w b g s aT ax aN.drew):=jH (by have:=eG.drewN 1;exact this);have dW:jX (nP aN.drew ay.heap.size #[nk nI 4,nk nI (ah:Int),ny (U (Z N.heap.size 0 V)) 1 1,nk nI 0] TT):=jH fK.out;have dD:=jH (uu b s aT ax 93 aN.drew bE bR eH.rd);have bz:=jH (λh=>qK (c:=93) (s:=s) (p:=aT) bR h)
       have gF:jX (∀W eO,pE b aN.drew W->sQ W b s eO ax->eO<=s.size->(W.cell? (Z ay.heap.size 0 V)=U (nk nI 4)/\W.cell? (Z ay.heap.size 1 V)=U (nk nI (ah:Int))/\W.cell? (Z ay.heap.size 2 V)=U (ny (U (Z N.heap.size 0 V)) 1 1)/\W.cell? (Z ay.heap.size 3 V)=U (nk nI 0))/\
         AP w b g s eO ax W/\oh.nX W (λk=>g+2<=k) (ny (U (Z N.heap.size 0 V)) 1 1) [.node a sub]):=jH λW eO eP iA gG=>by
        have h1:=eP.blk dW (by have:=av.hb;omega);exact⟨⟨h1.cell 0,h1.cell 1,h1.cell 2,h1.cell 3⟩,eH.sub eP iA gG aG,Shape.nX.keep (gD.keep (w':=aN.drew) (jK _) (λ_ _ h=>h) λ_ _ _=>rfl) eP.size (λ_ _ h=>h) λk hk aB=>eP.block k hk (by have:=av.hb;simp;omega)⟩
       cases bC:oP 93 (nQ s aT)with
       |true=>
        rw[bC]at dD;have bD:=jH (bz bC);have dX:jX (jV jI 215 #[nA (U (Z b 0 V)),nk .u8 93] aN.drew λe w'=>e=nG (nC true)/\pE b aN.drew w'/\sQ w' b s (aT+1) ax):=jH (dD.mono λe w' h=>⟨h.1,h.2.1,by simpa using h.2.2⟩);clear bC dD;have dY:aT+1<=s.size:=by have:=bD.1;omega
        have cZ:jX (R=U (.node ⟨4,(ah:Int),0⟩ [.node a sub],nQ s (aT+1),ax)):=jH (by
         rw[O.out,aL.out];simp only[kD,aM.2,J.1 rfl,bD.2])
        have fV:ah<=65536:=nL;clear eu bE O aL dL dM dO dP bg dN bS aA av aF eF fQ fT aM bD J bz eH dW fu fB bW eQ df dG aO ag aG dx bR fA aQ dR dQ dS dV bP hp hl dE fM dB dH fq dI;go_region_with (refine(dX).mono ?_;rintro e dZ ⟨rfl,aU,aV⟩;obtain⟨⟨gH,gI,gJ,gK⟩,aD,aW⟩:=gF.out dZ _ aU aV dY;have ed:=jH aD;have ek:=jH aW;obtain⟨⟨gL,gM⟩,⟨gN,gP⟩,⟨gQ,gT⟩,⟨gU,gV⟩,gW,gX,gY,gZ⟩:=aD.r0;clear aU aV aD aW)
        all_goals
         go_wp2_with fail;rw[oL];obtain⟨e0,e1,e2,e3,hpost⟩:=ed.fin (A:=nk nI 4) (B:=nk nI (ah:Int)) (C:=ny (U (Z N.heap.size 0 V)) 1 1) (D:=nk nI 0) ⟨4,(ah:Int),0⟩ (U (Z N.heap.size 0 V)) 1 1 true (λ_=>⟨_,cZ.out,Jy nL,ek.out⟩) (λh=>by cases h) rfl rfl rfl rfl;refine jZ (v:=nE #[nD #[nk nI 4,nk nI (ah:Int),ny (U (Z N.heap.size 0 V)) 1 1,nk nI 0],nC true]) (by simp[kQ,Tryz.results171,go_sem,kE,e0,e1,e2,e3]) rfl ?_;rw[<-HP.out];exact hpost
       |false=>
        rw[bC]at dD;have bD:=jH bC;have dX:jX (jV jI 215 #[nA (U (Z b 0 V)),nk .u8 93] aN.drew λe w'=>e=nG (nC false)/\pE b aN.drew w'/\sQ w' b s (aT) ax):=jH (dD.mono λe w' h=>⟨h.1,h.2.1,by simpa using h.2.2⟩);clear bC dD;have dY:aT<=s.size:=nL;have cZ:jX (R=V):=jH (by
         rw[O.out,aL.out];simp only[kD,aM.2,J.1 rfl];split;.rename_i r4 e4;exact(sO bD e4).elim
         .rfl)
        have fV:ah<=65536:=nL;clear eu bE O aL dL dM dO dP bg dN bS aA av aF eF fQ fT aM bD J bz eH dW fu fB bW eQ df dG aO ag aG dx bR fA aQ dR dQ dS dV bP hp hl dE fM dB dH fq dI;go_region_with (refine(dX).mono ?_;rintro e dZ ⟨rfl,aU,aV⟩;obtain⟨⟨gH,gI,gJ,gK⟩,aD,aW⟩:=gF.out dZ _ aU aV dY;have ed:=jH aD;have ek:=jH aW;obtain⟨⟨gL,gM⟩,⟨gN,gP⟩,⟨gQ,gT⟩,⟨gU,gV⟩,gW,gX,gY,gZ⟩:=aD.r0;clear aU aV aD aW)
        all_goals
         go_wp2_with fail;rw[oL];obtain⟨e0,e1,e2,e3,hpost⟩:=ed.fin (A:=nk nI 4) (B:=nk nI (ah:Int)) (C:=ny (U (Z N.heap.size 0 V)) 1 1) (D:=nk nI 0) ⟨4,(ah:Int),0⟩ (U (Z N.heap.size 0 V)) 1 1 false (λh=>by cases h) (λ_=>cZ.out) rfl rfl rfl rfl;refine jZ (v:=nE #[nD #[nk nI 4,nk nI (ah:Int),ny (U (Z N.heap.size 0 V)) 1 1,nk nI 0],nC false]) (by simp[kQ,Tryz.results171,go_sem,kE,e0,e1,e2,e3]) rfl ?_;rw[<-HP.out];exact hpost
   have iC:((s[p].toNat:Int)==91)=false:=hk.out 91 bu;have aX:=jH I.out;rw[if_neg bu]at aX;clear bu I;have I:=aX;clear aX;by_cases aK:s[p]=123
   .have dB:((s[p].toNat:Int)==123)=true:=by rw[aK];rfl
    have O:=jH I.out;rw[if_pos aK,show p+2=q+1 by have:=fQ.out;omega,show l+1=m+2 by have:=fT.out;omega]at O;have fZ:=jH (U0 D dep b s bE bW (λp l w h1 h2 bL=>eu.out (dep+1) p l w (by have:=dE.out;omega) h1 h2 bL) q m w3 aO dG Y.rd);rw[<-O.out]at fZ;have bP:=jH Y.hg;clear aK I hk;go_wp2_with fail;refine(fZ).mono ?_;rintro e w4 ⟨a,o,n,c,ok,aa,ax,rfl,ae,af,ag,aG,hok,Q⟩;have aA:=jH (Y.sub ae af ag aG);have J:=jH (jU hok Q);clear ae af hok Q fZ Y b0 ai r0 x1 r1 x2 r2 x3 r3 aj ak y2 au;obtain⟨⟨ai,r0⟩,⟨x1,r1⟩,⟨x2,r2⟩,⟨x3,r3⟩,aj,ak,y2,au⟩:=aA.r0;go_wp2_with fail;have aC:ok=true->∃sub,R=U (.node a sub,nQ s aa,ax)/\TL.wf a/\oh.nX w4 (λk=>g+2<=k) (ny o n c) sub:=λh=>by
     obtain⟨sub,h1,h2,bL⟩:=J.1 h;exact⟨sub,h1,h2,bL.keep (jK _) (λk _ aB=>jY bP aB) λ_ _ _=>rfl⟩
    rw[oL];obtain⟨e0,e1,e2,e3,hpost⟩:=aA.fin (A:=nk nI a.kind) (B:=nk nI a.size) (C:=ny o n c) (D:=nk nI a.tail) a o n c ok aC J.2 rfl rfl rfl rfl;refine jZ (v:=nE #[nD #[nk nI a.kind,nk nI a.size,ny o n c,nk nI a.tail],nC ok]) (by simp[kQ,Tryz.results171,go_sem,e0,e1,e2,e3]) rfl ?_;rw[<-HP.out];exact hpost
   .have iB:((s[p].toNat:Int)==123)=false:=hk.out 123 aK
    have O:=jH I.out;rw[if_neg aK]at O;clear aK I hk;go_wp2_with fail;rw[oL];obtain⟨e0,e1,e2,e3,hpost⟩:=Y.fin (A:=nk nI 0) (B:=nk nI 0) (C:=ny V 0 0) (D:=nk nI 0) ⟨0,0,0⟩ V 0 0 false (λh=>by cases h) (λ_=>O.out) rfl rfl rfl rfl;exact La
def Hl(l:List UInt8)(w:jJ)(e:Ending)(w':jJ):Prop:=
 ∃(a:TL) (o:Option lH) (n c:Nat) (er:Int) (sub:List (nM TL)),e=nG (nE #[nD #[nk nI a.kind,nk nI a.size,ny o n c,nk nI a.tail],nk nI er])/\jS w.heap.size w w'/\TL.wf a/\oh.nX w' (λk=>w.heap.size<=k) (ny o n c) sub/\
  (xh l=U (.node a sub)/\er=0\/xh l=V/\er=3/\a=⟨0,0,0⟩/\sub=[])
theorem Qp(s:ByteArray):nQ s 0=s.data.toList:=rfl
theorem Qq(h:rd 8 l 64=V):xh l=V:=by unfold xh;rw[h]
theorem Qr(h:rd 8 l 64=U (x,r,n))(A:r≠[]):xh l=V:=by
 unfold xh;rw[h];cases r with
 |nil=>exact absurd rfl A
 |cons _ _=>rfl
theorem U1(h:rd 8 l 64=U (x,[],n)):xh l=if p9 x then U x else V:=by unfold xh;rw[h]
theorem Qs(h:p:=by
 refine jZ (v:=nE #[nD #[nk nI 0,nk nI 0,ny V 0 0,nk nI 0],nk nI 3]) (by simp[kQ,Tryz.results121,go_sem,e0,e1,e2,e3]) rfl ?_;exact hpost):p:=h
theorem U2(s:ByteArray)(w:jJ)(hs:s.size<=j3)(aO:pW w):
  jV jI 121 #[nz s] w (Hl s.data.toList w):=by
 have aF:=aO.lt;obtain⟨g,hg⟩:=nV w.heap.size
 have aW:jX (∀W,(w.alloc (nH #[nk nI 0,nk nI 0,ny V 0 0,nk nI 0] TT)).alloc (nH #[nz s,nk nI 0,nk nI 64] 208)=W->jS g w W/\sQ W (g+1) s 0 64/\
   nP W g #[nk nI 0,nk nI 0,ny V 0 0,nk nI 0] TT/\W.heap.size=g+2):=jH λW h=>by
  subst h;have aG:=(jT w.heap.size w).alloc (jK _) (nH #[nk nI 0,nk nI 0,ny V 0 0,nk nI 0] TT);have aH:=nP.new w #[nk nI 0,nk nI 0,ny V 0 0,nk nI 0] TT;have aa:(w.alloc (nH #[nk nI 0,nk nI 0,ny V 0 0,nk nI 0] TT)).heap.size=g+1:=nT;rw[hg]at aG aH;generalize w.alloc (nH #[nk nI 0,nk nI 0,ny V 0 0,nk nI 0] TT)=w1 at*;have au:=(jT w1.heap.size w1).alloc (jK _) (nH #[nz s,nk nI 0,nk nI 64] 208);have aI:=nP.new w1 #[nz s,nk nI 0,nk nI 64] 208;rw[aa]at aI;exact⟨aG.trans (au.mono nL),aI,Below.blk au aH nL,nT⟩
 have bK:=jH aO;have aX:1<g:=hg▸aF;obtain⟨aP,aQ⟩:=nV (Hl s.data.toList w);have aY:=jH aQ;rw[aQ];clear aO aF aQ;go_in;go_upto_region 2 with fail;generalize (w.alloc (nH #[nk nI 0,nk nI 0,ny V 0 0,nk nI 0] TT)).alloc (nH #[nz s,nk nI 0,nk nI 64] 208)=w1 at*;obtain⟨av,aJ,ae,aa⟩:=aW.out _ rfl;have aZ:jX (jV jI 171 #[nA (U (Z (g+1) 0 V)),nk nI 1] w1 (tL (rd 8 (nQ s 0) 64) (g+1) s w1)):=jH (a1O (g+1) s hs 8 1 0 64 w1 rfl (kH _) (jK _) aJ);have ah:=jH (jU av (jU ae aa));clear aW av aJ ae aa;go_wp2_with fail;refine(aZ).mono ?_;rintro e w2 ⟨a,o,n,c,ok,ai,l2,rfl,af,aK,bg,bP,hok,aL⟩;have bL:g+2<=w2.heap.size:=by have:=af.size;have:=ah.2.2;omega
 have ax:jX (jS g w w2/\sQ w2 (g+1) s ai l2/\nP w2 g #[nk nI 0,nk nI 0,ny V 0 0,nk nI 0] TT):=jH ⟨af.below ah.1 nL (by have:=ah.2.2;omega),aK,af.blk ah.2.1 nL⟩;have Y:=jH (jU hok aL);have aM:jX (∀W,w2.alloc (nH #[nk nI a.kind,nk nI a.size,ny o n c,nk nI a.tail] TT)=W->jS w2.heap.size w2 W/\nP W w2.heap.size #[nk nI a.kind,nk nI a.size,ny o n c,nk nI a.tail] TT/\W.heap.size=w2.heap.size+1):=jH λW h=>by
  subst h;exact⟨(jT w2.heap.size w2).alloc (jK _) _,nP.new w2 _ _,nS⟩
 have bq:=jH ah.2.2;clear af aK hok aL aZ ah;go_upto_region 3 with fail;generalize w2.alloc (nH #[nk nI a.kind,nk nI a.size,ny o n c,nk nI a.tail] TT)=w3 at*;obtain⟨E,aN,bu⟩:=aM.out _ rfl
 have C:jX (jS g w w3/\sQ w3 (g+1) s ai l2/\nP w3 g #[nk nI 0,nk nI 0,ny V 0 0,nk nI 0] TT/\nP w3 w2.heap.size #[nk nI a.kind,nk nI a.size,ny o n c,nk nI a.tail] TT/\jS w2.heap.size w2 w3):=
  jH ⟨ax.1.trans (E.mono nL),sQ.below ax.2.1 E,Below.blk E ax.2.2 nL,aN,E⟩
 have O:w2.heap.size<w3.heap.size:=nL;clear aM E aN bu;obtain⟨aR,aS,aT,aU⟩:=C.2.2.2.1.a4;obtain⟨r0,r1,r2,r3,aA,aB,y2,aC⟩:=C.2.2.1.b4;obtain⟨c0,c1⟩:=C.2.1.a2
 have Q:jX (∀W,jS g w W->(∃cs,nP W g cs TT/\cs.size=4)->xh s.data.toList=V->(qo W g (nk nI 0) (nk nI 0) (ny V 0 0) (nk nI 0)).cell? (Z g 0 V)=U (nk nI 0)/\(qo W g (nk nI 0) (nk nI 0) (ny V 0 0) (nk nI 0)).cell? (Z g 1 V)=U (nk nI 0)/\
   (qo W g (nk nI 0) (nk nI 0) (ny V 0 0) (nk nI 0)).cell? (Z g 2 V)=U (ny V 0 0)/\(qo W g (nk nI 0) (nk nI 0) (ny V 0 0) (nk nI 0)).cell? (Z g 3 V)=U (nk nI 0)/\
   aP (nG (nE #[nD #[nk nI 0,nk nI 0,ny V 0 0,nk nI 0],nk nI 3])) (qo W g (nk nI 0) (nk nI 0) (ny V 0 0) (nk nI 0))):=jH λW I hB bM=>by
  obtain⟨cs,ae,bz⟩:=hB;have aj:=wF (a:=nk nI 0) (b:=nk nI 0) (c:=ny V 0 0) (d:=nk nI 0) ae bz;refine⟨aj.cell 0,aj.cell 1,aj.cell 2,aj.cell 3,?_⟩;rw[<-aY.out];refine⟨⟨0,0,0⟩,V,0,0,3,[],rfl,?_,Jy nL,Dp _ _ _,.inr ⟨bM,rfl,rfl,rfl⟩⟩;rw[hg];exact⟨I.os,I.tape,I.output,jY I.size (mR yu.symm),λk hk=>(AO k nL).trans (I.block k hk)⟩
 cases ok with
 |false=>
  have aV:=jH (Qq (Y.2 rfl));clear Y;go_wp2_with fail;rw[oL];obtain⟨e0,e1,e2,e3,hpost⟩:=Q.out w3 C.1 ⟨_,C.2.2.1,rfl⟩ aV.out;exact Qs
 |true=>
  by_cases J:ai=s.size
  .have bN:((ai:Int) !=s.size)=false:=by simp[J]
   have ay:jX (∃sub,rd 8 s.data.toList 64=U (.node a sub,[],l2)/\TL.wf a/\oh.nX w3 (λk=>g+2<=k) (ny o n c) sub):=jH (by
    obtain⟨sub,h1,h2,ak⟩:=Y.1 rfl;rw[Qp,rY (s:=s) (p:=ai) nL]at h1;exact⟨sub,h1,h2,ak.keep C.2.2.2.2.size (λk _ hk=>by have:=bq.out;omega) λk hk _=>C.2.2.2.2.block k hk⟩)
   obtain⟨sub,h1,h2,ak⟩:=ay.out;have ag:=jH (U1 h1);have bA:=jH h2;have bB:=jH ak;have az:=jH (CE (.node a sub) w3 (ny o n c) (ak.keep (jK _) (λ_ _ _=>trivial) λ_ _ _=>rfl) (bK.below C.1 aX));have bO:=jH J;clear h1 h2 ak ay J;simp only[nM.oZ]at az;cases aD:p9 (.node a sub)with
   |false=>
    rw[aD]at az ag;clear aD;go_wp2_with fail;refine(az).mono ?_;rintro e w4 ⟨rfl,A⟩;have N:=jH A;have bC:=(A.cell (p:=(Z g 0 V)) (show g<w3.heap.size by omega)).trans r0;have bD:=(A.cell (p:=(Z g 1 V)) (show g<w3.heap.size by omega)).trans r1;have bE:=(A.cell (p:=(Z g 2 V)) (show g<w3.heap.size by omega)).trans r2;have bF:=(A.cell (p:=(Z g 3 V)) (show g<w3.heap.size by omega)).trans r3;have bG:=(A.frozen (p:=(Z g 0 V)) (show g<w3.heap.size by omega)).trans aA;have bH:=(A.frozen (p:=(Z g 1 V)) (show g<w3.heap.size by omega)).trans aB;have bI:=(A.frozen (p:=(Z g 2 V)) (show g<w3.heap.size by omega)).trans y2;have bJ:=(A.frozen (p:=(Z g 3 V)) (show g<w3.heap.size by omega)).trans aC;clear A r0 r1 r2 r3 aA aB y2 aC aR aS aT aU c0 c1;go_wp2_with fail;rw[oL];obtain⟨e0,e1,e2,e3,hpost⟩:=Q.out w4 (C.1.trans (N.mono nL)) ⟨_,Below.blk N C.2.2.1 nL,rfl⟩ (by rw[ag.out];rfl);exact Qs
   |true=>
    rw[aD]at az ag;clear aD;go_wp2_with fail;refine(az).mono ?_;rintro e w4 ⟨rfl,A⟩;have N:=jH A;have bC:=(A.cell (p:=(Z g 0 V)) (show g<w3.heap.size by omega)).trans r0;have bD:=(A.cell (p:=(Z g 1 V)) (show g<w3.heap.size by omega)).trans r1;have bE:=(A.cell (p:=(Z g 2 V)) (show g<w3.heap.size by omega)).trans r2;have bF:=(A.cell (p:=(Z g 3 V)) (show g<w3.heap.size by omega)).trans r3;have bG:=(A.frozen (p:=(Z g 0 V)) (show g<w3.heap.size by omega)).trans aA;have bH:=(A.frozen (p:=(Z g 1 V)) (show g<w3.heap.size by omega)).trans aB;have bI:=(A.frozen (p:=(Z g 2 V)) (show g<w3.heap.size by omega)).trans y2;have bJ:=(A.frozen (p:=(Z g 3 V)) (show g<w3.heap.size by omega)).trans aC;have bQ:=(A.cell (p:=(Z w2.heap.size 0 V)) O).trans aR;have bR:=(A.cell (p:=(Z w2.heap.size 1 V)) O).trans aS;have bS:=(A.cell (p:=(Z w2.heap.size 2 V)) O).trans aT;have bT:=(A.cell (p:=(Z w2.heap.size 3 V)) O).trans aU;clear A r0 r1 r2 r3 aA aB y2 aC aR aS aT aU c0 c1;go_wp2_with fail;rw[oL];have aj:=wF (a:=nk nI a.kind) (b:=nk nI a.size) (c:=ny o n c) (d:=nk nI a.tail) (Below.blk N C.2.2.1 nL) rfl;obtain⟨e0,e1,e2,e3⟩:=aj.a4;refine jZ (v:=nE #[nD #[nk nI a.kind,nk nI a.size,ny o n c,nk nI a.tail],nk nI 0]) (by simp[kQ,Tryz.results121,go_sem,e0,e1,e2,e3]) rfl ?_;rw[<-aY.out];have I:jS g w w4:=C.1.trans (N.mono nL);refine⟨a,o,n,c,0,sub,rfl,?_,bA.out,?_,.inl ⟨by rw[ag.out];rfl,rfl⟩⟩
    .rw[hg]
     exact⟨I.os,I.tape,I.output,jY I.size (mR yu.symm),λk hk=>(AO k nL).trans (I.block k hk)⟩
    .exact(wE (Shape.nX.below bB N) (λk hk=>by omega)).keep (jK _) (λk _ hk=>by have hk:g+2<=k:=hk;show w.heap.size<=k;omega) λ_ _ _=>rfl
  .have bN:((ai:Int) !=s.size)=true:=FL
   have aV:jX (xh s.data.toList=V):=jH (by
    obtain⟨sub,h1,h2,ak⟩:=Y.1 rfl;exact Qr h1 λh=>J (Jv bg h))
   clear J Y;go_wp2_with fail;rw[oL];obtain⟨e0,e1,e2,e3,hpost⟩:=Q.out w3 C.1 ⟨_,C.2.2.1,rfl⟩ aV.out;exact Qs
end
section
open Go.RowKit Go.Maps
def uL(c:oF)(rows:List Row)(id:Nat)(nm tx:ByteArray):Nat×Option Row:=
 if(rows.find? λy=>decide (y.name=nm)).isSome=true\/sw nm.data.toList=false then(11,V)
 else if(rows.find? λy=>decide (y.id=id)).isSome=true then(1,V)
 else match xh tx.data.toList with
  |none=>(3,V)
  |some t=>if c.fmt=1/\(nM.o7 p0 t.sub&&p9 t)=false then(12,V)else(0,U ⟨id,nm,tx,t⟩)
structure a6B(r bn bi:Nat)(c:oF)(L:List oO)(R:Nat×Option Row)(w w':jJ):Prop where
 kp:qJ (λd=>d=bn\/d=bi) w w'
 rg:∀row,R.2=U row->∃x:oO,x.r=row/\qi r bn bi c (x::L) w'
theorem Qt(L:List oO)(nm:ByteArray):((L.map λx=>x.r).find? λy=>decide (y.name=nm)).isSome=(L.find? λx=>decide (x.r.name=nm)).isSome:=by
 rw[List.find?_map,Option.isSome_map];rfl
theorem YF(L:List oO)(id:Nat):((L.map λx=>x.r).find? λy=>decide (y.id=id)).isSome=(L.find? λx=>decide ((x.r.id:Int)=(id:Int))).isSome:=by
 rw[List.find?_map,Option.isSome_map];have:((λr:Row=>decide (r.id=id))∘λx:oO=>x.r)=λx:oO=>decide ((x.r.id:Int)=(id:Int)):=funext λx=>decide_eq_decide.2 (by show x.r.id=id<->(x.r.id:Int)=(id:Int);omega)
 rw[this]
theorem Jz{L:List oO}{p:oO->Bool}(h:(L.find? p).isSome=false):∀y,y∈L->p y=false:=by
 intro y A;rw[Option.isSome_eq_false_iff,Option.isNone_iff_eq_none]at h;have:=List.find?_eq_none.1 h y A;simpa using this
theorem YG{r bn bi kt:Nat}{c:oF}{L:List oO}{x:oO}{W:jJ}(h:RaB g r bn bi c L x.r.id x.r.name x.r.text w0 W)(C:nP W kt #[nk nI x.r.ty.lab.kind,nk nI x.r.ty.lab.size,ny x.ou x.r.ty.sub.length x.cu,nk nI x.r.ty.lab.tail] Ef)(hs:oh.nX W (λk=>r<k) (ny x.ou x.r.ty.sub.length x.cu) x.r.ty.sub)(N:bn≠bi/\r≠bn/\r≠bi)(hk:g<kt)(h1:∀y,y∈L->y.r.name≠x.r.name)(h2:∀y,y∈L->y.r.id≠x.r.id)(E:x.r.name.size<=j3)(I:x.r.id<18446744073709551616)(J:L.length<1000):IK g r bn bi kt c L x w0 false false W:=by
 have l:=h.lt;refine⟨h.rg.rg,h.rg.nm,h.rg.id,λy A=> ?_,h.en,C,qJ.of (l.1.symm▸h.pR),⟨h1,h2,E,I,J⟩,nL⟩;rcases mM.1 A with rfl|A
 .exact hs
 .exact h.rg.sq y A
theorem a4A{r bn bi kt:Nat}{c:oF}{L:List oO}{x:oO}{W:jJ}(h:IK g r bn bi kt c L x w0 true true W)(A:∀y,y∈x::L->p9 y.r.ty=true/\(c.fmt=1->(nM.o7 p0 y.r.ty.sub&&p9 y.r.ty)=true)/\y.r.name.size<=12):qi r bn bi c (x::L) W:=
 ⟨h.rg,h.nm,h.id,h.sub,A⟩
theorem YH{t:nM TL}(h:xh l=U t):p9 t=true:=by
 unfold xh at h;split at h
 .split at h
  .rename_i h1;cases h;exact h1
  .cases h
 .cases h
theorem Sz(h:p:=by
 go_wp2_with fail;try go_returns
 exact⟨by rw[HE.out];rfl,qJ.of (hg.symm▸HF.1.pR),by rw[HE.out];exact λ_ h=>by cases h⟩):p:=h
theorem YI(h:p:=by
 intro vs8 W8 h8;have H8:=jH h8;clear h8;simp only[jL,jQ,jR];go_upto_region 13 with fail;refine Yq (g:=g) (r:=r) (bn:=bn) (bi:=bi) (kt:=kt) (c:=c) (L:=L) (x:=⟨⟨id,nm,tx,.node a sub⟩,o,cc⟩) (w0:=w) (ht0:=by rfl) (ht3:=by rfl) (Js:=by rfl) (hsz:=by rfl) (hI0:=λ_=>H8.below (oC _)) ?_;intro vs9 W9 h9;have H9:=jH h9;clear h9;simp only[jL,jQ,jR];go_wp2_with fail;try go_returns
 exact⟨by rw[HE.out];rfl,H9.kp,by rw[HE.out];exact λrow h=>by cases h;exact⟨⟨⟨id,nm,tx,.node a sub⟩,o,cc⟩,rfl,a4A H9 YJ.out⟩⟩):p:=h
theorem a1P(r bn bi:Nat)(c:oF)(L:List oO)(id:Nat)(nm tx:ByteArray)(w:jJ)(h:qi r bn bi c L w)(aJ:bn≠bi/\r≠bn/\r≠bi)(af:nm.size<=j3)(aK:tx.size<=j3)(hid:id<18446744073709551616)(hL:L.length<1000)(aX:pW w):
  jV jI 87 #[nA (U (Z r 0 V)),nD #[nk nJ id,nz nm,nz tx]] w λe w'=>e=nG (nk nI (uL c (L.map λx=>x.r) id nm tx).1)/\a6B r bn bi c L (uL c (L.map λx=>x.r) id nm tx) w w':=by
 obtain⟨g,hg⟩:=nV w.heap.size;have bC:=h.lt3;have aL:jX (∀W,w.alloc (nH #[nk nJ id,nz nm,nz tx] UU)=W->RaB g r bn bi c L id nm tx w W/\W.heap.size=g+1):=jH λW Y=>by
  subst Y;have a:=(jT w.heap.size w).alloc (jK _) (nH #[nk nJ id,nz nm,nz tx] UU);exact⟨⟨h.below a,hg▸nP.new w _ _,hg▸a,hg,nL⟩,by simp[hg]⟩
 have J:jX (∀W,qi r bn bi c L W->_):=jH λW Y=>Y.look nm af
 have N:jX (∀W,qi r bn bi c L W->_):=jH λW Y=>Y.a2F id hid
 have aY:=jH h;have aM:=jH (λ(W:jJ) (hb:jS g w W)=>aX.below hb (hg▸aX.lt));have O:=jH (jU aJ (jU af (jU aK (jU hid hL))));obtain⟨x1,aN,_⟩:=yg L λx=>decide (x.r.name=nm)
 obtain⟨bD,aO,_⟩:=yg L λx=>decide ((x.r.id:Int)=(id:Int))
 rw[aN]at J;rw[aO]at N;unfold RC.cs at J N;obtain⟨b1,ag⟩:=nV ((L.find? λx=>decide (x.r.name=nm)).isSome);obtain⟨b4,ah⟩:=nV ((L.find? λx=>decide ((x.r.id:Int)=(id:Int))).isSome);obtain⟨E,ax⟩:=nV (uL c (L.map λx=>x.r) id nm tx)
 have Q:jX (E=if b1=true\/sw nm.data.toList=false then(11,V)else if b4=true then(1,V)else match xh tx.data.toList with
  |none=>(3,V)
  |some t=>if c.fmt=1/\(nM.o7 p0 t.sub&&p9 t)=false then(12,V)else(0,U ⟨id,nm,tx,t⟩)):=jH (by rw[<-ax];unfold uL;rw[Qt,YF,ag,ah])
 have aP:jX (b1=false->∀y,y∈L->y.r.name≠nm):=jH λe y aa=>by have:=Jz (ag.trans e) y aa;simpa using this
 have aQ:jX (b4=false->∀y,y∈L->y.r.id≠id):=jH λe y aa=>by have:=Jz (ah.trans e) y aa;simp at this;omega
 rw[ag]at J;rw[ah]at N;rw[ax];have aZ:=jH (λW=>Kj nm W af);generalize aR:sw nm.data.toList=bm at*;have bq:=jH aR;clear h aJ af aK hid hL aX aN aO ag ah ax bC aR;go_in;go_upto_region 1 with fail;obtain⟨hI,bu⟩:=aL.out _ rfl;generalize w.alloc _=w1 at*;have ay:=jH (jU hI bu);clear aL hI bu;refine a1J (g:=g) (r:=r) (bn:=bn) (bi:=bi) (c:=c) (L:=L) (Il:=id) (nm:=nm) (tx:=tx) (w0:=w) (k:=g+1) (b:=b1) (x:=x1) (ht0:=by rfl) (ht3:=by rfl) (hl:=J.out) (h0:=aY.out) (hsz:=by rfl) (hI0:=λ_=>⟨ay.1.below (oC w1),by simpa using ay.2,(λh=>by cases h),nL⟩) ?_;intro vs bE hF;have HF:=jH (jU hF.b (show bE.heap.size=g+2 by simpa using hF.sz));clear hF ay J;simp only[jL,jQ,jR];cases b1 with
 |true=>
  have HE:jX (E=(11,V)):=jH (by rw[Q.out,if_pos (.inl rfl)]);exact Sz
 |false=>
  cases bm with
  |false=>
   have HE:jX (E=(11,V)):=jH (by rw[Q.out,if_pos (.inr rfl)]);have c1:=HF.1.en.c1;go_wp2_with fail;refine(aZ _).mono ?_;rintro e w3 ⟨rfl,rfl⟩;exact Sz
  |true=>
   have c1:=HF.1.en.c1;go_wp2_with fail;refine(aZ _).mono ?_;rintro e w3 ⟨rfl,hw3⟩;subst hw3;clear aZ c1;go_upto_region 4 with fail;refine a1K (g:=g) (r:=r) (bn:=bn) (bi:=bi) (c:=c) (L:=L) (Il:=id) (nm:=nm) (tx:=tx) (w0:=w) (k:=g+2) (b:=b4) (x:=bD) (ht0:=by rfl) (ht3:=by rfl) (hl:=N.out) (h0:=aY.out) (hsz:=by rfl) (hI0:=λ_=>⟨HF.1.below (oC w3),by simpa using HF.2,(λh=>by cases h),nL⟩) ?_;intro vs az aA;have A:=jH (jU aA.b (show az.heap.size=g+3 by simpa using aA.sz));clear aA HF N;simp only[jL,jQ,jR];cases b4 with
   |true=>
    have HE:jX (E=(1,V)):=jH (by rw[Q.out,if_neg nS,if_pos rfl]);go_wp2_with fail;try go_returns
    exact⟨by rw[HE.out];rfl,qJ.of (hg.symm▸A.1.pR),by rw[HE.out];exact λ_ h=>by cases h⟩
   |false=>
    have ai:jX (E=match xh tx.data.toList with
     |none=>(3,V)
     |some t=>if c.fmt=1/\(nM.o7 p0 t.sub&&p9 t)=false then(12,V)else(0,U ⟨id,nm,tx,t⟩)):=jH (by rw[Q.out,if_neg nS,if_neg nS])
    clear Q;have c2:=A.1.en.c2;have bg:=jH (U2 tx az O.2.2.1 (aM az A.1.pR));go_wp2_with fail;refine bg.mono ?_;unfold Hl;rintro e w5 ⟨a,o,n,cc,er,sub,rfl,aj,bN,I,C⟩;obtain⟨kt,aB⟩:=nV w5.heap.size;obtain⟨_,_,aS,_⟩:=(show oh.nX w5 (λk=>az.heap.size<=k) (ny o n cc) sub from I);obtain⟨bF,bG,rc⟩:o=o/\n=sub.length/\cc=cc:=⟨rfl,by injection aS,rfl⟩;subst bG;clear aS bF rc;have aI:jX (∀W,w5.alloc (nH #[nk nI a.kind,nk nI a.size,ny o sub.length cc,nk nI a.tail] Ef)=W->RaB g r bn bi c L id nm tx w W/\nP W kt #[nk nI a.kind,nk nI a.size,ny o sub.length cc,nk nI a.tail] Ef/\oh.nX W (λk=>r<k) (ny o sub.length cc) sub/\g<kt):=jH λW Y=>by
     subst Y;have al:=(jT w5.heap.size w5).alloc (jK _) (nH #[nk nI a.kind,nk nI a.size,ny o sub.length cc,nk nI a.tail] Ef);have:=aj.size;have:=A.2;exact⟨(A.1.below aj).below al,aB▸nP.new w5 _ _,(Shape.nX.below I al).keep (jK _) (λk _ hk=>by have hk:az.heap.size<=k:=hk;have:=A.1.lt;have:=A.1.pR.size;show r<k;omega) λ_ _ _=>rfl,nL⟩
    rcases C with⟨C,rfl⟩|⟨C,rfl,rfl,rfl⟩
    .have ak:=jH C
     clear aj I C bg c2;go_upto_region 10 with fail;obtain⟨hB,au,aC,aD⟩:=aI.out _ rfl;generalize w5.alloc _=ae at*;have aF:=jH (jU hB (jU au (jU aC aD)));have aT:jX (IK g r bn bi kt c L ⟨⟨id,nm,tx,.node a sub⟩,o,cc⟩ w false false ae):=jH (YG (x:=⟨⟨id,nm,tx,.node a sub⟩,o,cc⟩) hB au aC O.1 aD (by first|exact aP rfl|exact aP trivial) (by first|exact aQ rfl|exact aQ trivial) O.2.1 O.2.2.2.1 O.2.2.2.2);have c0:=hB.rg.rg.c0;obtain⟨bH,bI,y2,bJ⟩:=au.a4;clear hB au aC aD aI aB;have YJ:∀ b:Bool,(c.fmt=1->b=true)->(nM.o7 p0 sub&&p9 (.node a sub))=b->∀y,y∈(⟨⟨id,nm,tx,.node a sub⟩,o,cc⟩:oO)::L->p9 y.r.ty=true/\(c.fmt=1->(nM.o7 p0 y.r.ty.sub&&p9 y.r.ty)=true)/\y.r.name.size<=12:=λb hb bz y aa=>by
      rcases mM.1 aa with rfl|aa
      .refine⟨YH ak.out,λbK=>(bz.trans (hb bK):(nM.o7 p0 sub&&p9 (.node a sub))=true),?_⟩
       have:=bq.out;unfold sw at this;simp only[j4,decide_eq_true_eq]at this;have bO:=this.1.2;have e:nm.data.toList.length=nm.size:=kY;show nm.size<=12;omega
      .exact aY.may y aa
     have av:=jH YJ;clear YJ;by_cases h1:c.fmt=1
     .have bL:(c.fmt==1)=true:=by simp[h1]
      have bM:=jH h1;have bA:=jH (D6 (.node a sub) ae (ny o sub.length cc) (aF.2.2.1.keep (jK _) (λ_ _ _=>trivial) λ_ _ _=>rfl) (aM ae aF.1.pR));obtain⟨bB,aG⟩:=nV ((nM.o7 p0 sub&&p9 (.node a sub)));have aH:=jH aG;have aU:jX (jV jI 122 #[nD #[nk nI a.kind,nk nI a.size,ny o sub.length cc,nk nI a.tail]] ae λe w'=>e=nG (nC bB)/\jS ae.heap.size ae w'):=jH (aG▸bA.out);clear h1 bA aG;go_wp2_with fail;refine aU.mono ?_;rintro e bP ⟨rfl,aV⟩;have aW:=jH aV;clear aV aU c0 bH bI y2 bJ;cases bB with
      |false=>
       have HE:jX (E=(12,V)):=jH (by rw[ai.out,ak.out];exact if_pos ⟨bM.out,aH.out⟩);go_wp2_with fail;try go_returns
       exact⟨by rw[HE.out];rfl,qJ.of (hg.symm▸(aF.1.below aW).pR),by rw[HE.out];exact λ_ h=>by cases h⟩
      |true=>
       have HE:jX (E=(0,U ⟨id,nm,tx,.node a sub⟩)):=jH (by rw[ai.out,ak.out];exact if_neg λh=>Bool.false_ne_true (h.2.symm.trans aH));have YJ:=jH (av true (λ_=>rfl) aH);go_upto_region 12 with fail;refine NJ (g:=g) (r:=r) (bn:=bn) (bi:=bi) (kt:=kt) (c:=c) (L:=L) (x:=⟨⟨id,nm,tx,.node a sub⟩,o,cc⟩) (w0:=w) (ht0:=by rfl) (ht3:=by rfl) (Js:=by rfl) (hsz:=by rfl) (hI0:=λ_=>(aT.below aW).below (oC _)) ?_;exact YI
     .have bL:(c.fmt==1)=false:=by simp[h1]
      have HE:jX (E=(0,U ⟨id,nm,tx,.node a sub⟩)):=jH (by rw[ai.out,ak.out];exact if_neg λh=>h1 h.1);have YJ:=jH (av _ (λh=>absurd h h1) rfl);clear h1;go_upto_region 12 with fail;refine NJ (g:=g) (r:=r) (bn:=bn) (bi:=bi) (kt:=kt) (c:=c) (L:=L) (x:=⟨⟨id,nm,tx,.node a sub⟩,o,cc⟩) (w0:=w) (ht0:=by rfl) (ht3:=by rfl) (Js:=by rfl) (hsz:=by rfl) (hI0:=λ_=>aT.below (oC _)) ?_;exact YI
    .have HE:jX (E=(3,V)):=jH (by rw[ai.out,C])
     clear aj I C bg c2;go_upto_region 8 with fail;obtain⟨hB,_⟩:=aI.out _ rfl;generalize w5.alloc _=ae at*;have aF:=jH hB;clear hB aI aB;go_wp2_with fail;try go_returns
     exact⟨by rw[HE.out];rfl,qJ.of (hg.symm▸aF.pR),by rw[HE.out];exact λ_ h=>by cases h⟩
end
end Go.Proofs.YtamfcjmhnndbdaaGreatDoor


