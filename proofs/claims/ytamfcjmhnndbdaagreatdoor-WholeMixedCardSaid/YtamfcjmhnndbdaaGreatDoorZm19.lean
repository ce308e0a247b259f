/- Part 19 of the proof. -/
import Derived.Test.YtamfcjmhnndbdaaGreatDoorZm00
import Derived.Test.YtamfcjmhnndbdaaGreatDoorZm08
import Derived.Test.YtamfcjmhnndbdaaGreatDoorZm06
import Derived.Test.YtamfcjmhnndbdaaGreatDoorZm10
import Derived.Test.YtamfcjmhnndbdaaGreatDoorZm16
import Derived.Test.YtamfcjmhnndbdaaGreatDoorZm18
import Derived.Laws.OwnMore
import Derived.Laws.AppendOwnNone
open Go.Value renaming agg→nD,bool→nC,int→nk,pointer→nA,slice→ny,string→nz,tuple→nE,ownBlock→kJ,slice→kM
open Go.Obj renaming cells→nH
open Go.IntKind renaming i64→nI
open Go.Ending renaming returned→nG
open Go.Lib renaming hid→jH,strCells→mD
open Go.Proofs.Tryz renaming prog→jI
open Go renaming World→jJ,Value→jP,Calls→jV,maxLen→j3,TypeId→ko,wpAnyH_take→kU,Addr→lH,wpAnyH_ready→lS,Oper→lY,Program→ma
open Nat renaming le_refl→jK,le_trans→jY,lt_of_lt_of_le→kG,zero_le→kH,add_assoc→kR,lt_or_ge→kZ,lt_succ_self→lK,lt_of_le_of_lt→mr
open List renaming setIfInBounds_toArray→jL,getElem?_cons_succ→jM,getElem?_cons_zero→jN,getElem?_toArray→jO,set_cons_zero→jQ,set_cons_succ→jR,getElem?_eq_getElem→jW,length_append→j5,length_cons→kF,mem_of_getElem?→kK,take_length→l9,append_assoc→mG,mem_cons→mM,map_cons→mQ,length_eq_zero_iff→mU,take_add_one→mY
open Go.RowKit renaming Below→jS,Hid→jX,intOf→kT
open Go.RowKit.Below renaming refl→jT,heap_setCell→j6
open And renaming intro→jU
open Go.World renaming setCell→kz
open Go.Act renaming put→kE
open Or renaming inl→kP
open Go.AllReadyH renaming cons→kW,nil→lq
open Go.Instr renaming makeFunc→mJ
open Option renaming none→V,some→U
open Go.Addr renaming mk→Z
namespace Go.Proofs.YtamfcjmhnndbdaaGreatDoor
set_option linter.unusedVariables false
set_option linter.unusedSimpArgs false
set_option maxRecDepth 100000
set_option maxHeartbeats 8000000
variable {t e:ko}{iv v vr bv:jP}{a:IL}{cs:Array jP}{α:Type}{P:ma}{ops:Array lY}
section
open Go.RowKit
def zf(t:nM TL)(x:nM IL)(deep most:Int):Int:=if rC t x≠0 then rC t x else if zN x deep most≠0 then zN x deep most else LB x
theorem a4Q{w w1 w2 w3 w4 w5 W:jJ}{t:TL}{tv:jP}{deep most:Int}(e1:w.alloc (nH #[nk nI t.kind,nk nI t.size,tv,nk nI t.tail] 63)=w1)(e2:w1.alloc (nH #[nz (txt a),nC a.list,iv] IT)=w2)(e3:w2.alloc (nH #[nk nI deep] 3)=w3)(e4:w3.alloc (nH #[nk nI most] 3)=w4)(e5:w4.alloc (nH #[nz ⟨#[]⟩] 9)=w5)(N:w5.alloc (nH #[.func (.func 156) #[] #[nA (U (Z w.heap.size 0 V)),nA (U (Z (w.heap.size+1) 0 V))],
  .func (.func 158) #[] #[nA (U (Z (w.heap.size+1) 0 V)),nA (U (Z (w.heap.size+2) 0 V)),nA (U (Z (w.heap.size+3) 0 V))],
  .func (.func 160) #[] #[nA (U (Z (w.heap.size+1) 0 V)),nA (U (Z (w.heap.size+4) 0 V))]] FnT)=W):IW w.heap.size w t tv a iv deep most ⟨#[]⟩ W/\w5.heap.size=w.heap.size+5:=by
 have O:w1.heap.size=w.heap.size+1:=by rw[<-e1];simp
 have Q:w2.heap.size=w.heap.size+2:=by rw[<-e2];simp[O]
 have z3:w3.heap.size=w.heap.size+3:=by rw[<-e3];simp[Q]
 have z4:w4.heap.size=w.heap.size+4:=by rw[<-e4];simp[z3]
 have z5:w5.heap.size=w.heap.size+5:=by rw[<-e5];simp[z4]
 have b1:jS w.heap.size w w1:=by rw[<-e1];exact(jT _ _).alloc (jK _) _
 have aa:jS w1.heap.size w1 w2:=by rw[<-e2];exact(jT _ _).alloc (jK _) _
 have b3:jS w2.heap.size w2 w3:=by rw[<-e3];exact(jT _ _).alloc (jK _) _
 have b4:jS w3.heap.size w3 w4:=by rw[<-e4];exact(jT _ _).alloc (jK _) _
 have ae:jS w4.heap.size w4 w5:=by rw[<-e5];exact(jT _ _).alloc (jK _) _
 have b6:jS w5.heap.size w5 W:=by rw[<-N];exact(jT _ _).alloc (jK _) _
 have A:=nP.new w #[nk nI t.kind,nk nI t.size,tv,nk nI t.tail] 63;have C:=nP.new w1 #[nz (txt a),nC a.list,iv] IT;have E:=nP.new w2 #[nk nI deep] 3;have I:=nP.new w3 #[nk nI most] 3;have J:=nP.new w4 #[nz ⟨#[]⟩] 9
 have Y:=nP.new w5 #[.func (.func 156) #[] #[nA (U (Z w.heap.size 0 V)),nA (U (Z (w.heap.size+1) 0 V))],
  .func (.func 158) #[] #[nA (U (Z (w.heap.size+1) 0 V)),nA (U (Z (w.heap.size+2) 0 V)),nA (U (Z (w.heap.size+3) 0 V))],
  .func (.func 160) #[] #[nA (U (Z (w.heap.size+1) 0 V)),nA (U (Z (w.heap.size+4) 0 V))]] FnT
 rw[e1]at A;rw[e2,O]at C;rw[e3,Q]at E;rw[e4,z3]at I;rw[e5,z4]at J;rw[N,z5]at Y;have c5:jS w4.heap.size w4 W:=ae.trans (b6.mono nL);have c4:jS w3.heap.size w3 W:=b4.trans (c5.mono nL);have c3:jS w2.heap.size w2 W:=b3.trans (c4.mono nL);have c2:jS w1.heap.size w1 W:=aa.trans (c3.mono nL);exact⟨⟨Below.blk c2 A A.lt,Below.blk c3 C C.lt,Below.blk c4 E E.lt,Below.blk c5 I I.lt,Below.blk b6 J J.lt,Y,b1.trans (c2.mono nL)⟩,z5⟩
theorem Zx(t:nM TL)(x:nM IL)(w:jJ)(tv iv:jP)(E:oQ w tv t.sub)(C:pJ w iv x.sub)(O:x.lab.text.length<=j3)(ai:∀W,jS w.heap.size w W->jV jI 161 #[nD #[nz (txt x.lab),nC x.lab.list,iv]] W λe w'=>e=nG (nE #[nz (Dw x),nk nI (LB x)])/\jS W.heap.size W w')(aj:pW w)(deep most:Int):
  jV jI 116 #[nD #[nk nI t.lab.kind,nk nI t.lab.size,tv,nk nI t.lab.tail],nD #[nz (txt x.lab),nC x.lab.list,iv],nk nI deep,nk nI most] w
   λe w'=>e=nG (nE #[nz (if zf t x deep most=0 then Dw x else⟨#[]⟩),nk nI (zf t x deep most)])/\jS w.heap.size w w':=by
 have aF:∀(fn:Fn)(first cap:Array jP)(w:jJ),(mJ fn first cap).run jI w=.ok (.func fn first cap) w:=λ_ _ _ _=>rfl
 have aa:jX (∀w5 W,(((((w.alloc (nH #[nk nI t.lab.kind,nk nI t.lab.size,tv,nk nI t.lab.tail] 63)).alloc (nH #[nz (txt x.lab),nC x.lab.list,iv] IT)).alloc (nH #[nk nI deep] 3)).alloc (nH #[nk nI most] 3)).alloc (nH #[nz ⟨#[]⟩] 9))=w5->
   w5.alloc (nH #[.func (.func 156) #[] #[nA (U (Z w.heap.size 0 V)),nA (U (Z (w.heap.size+1) 0 V))],
  .func (.func 158) #[] #[nA (U (Z (w.heap.size+1) 0 V)),nA (U (Z (w.heap.size+2) 0 V)),nA (U (Z (w.heap.size+3) 0 V))],
  .func (.func 160) #[] #[nA (U (Z (w.heap.size+1) 0 V)),nA (U (Z (w.heap.size+4) 0 V))]] FnT)=W->w5.heap.size=w.heap.size+5/\jV jI 155 #[ny (U (Z w5.heap.size 0 V)) 3 3] W λe ae=>e=nG (nk nI (zf t x deep most))/\jS w.heap.size w ae/\
    (zf t x deep most=0->ae.cell? (Z (w.heap.size+4) 0 V)=U (nz (Dw x)))):=jH λw5 W az aA=>by
  obtain⟨hI,J⟩:=a4Q (t:=t.lab) (tv:=tv) (iv:=iv) (a:=x.lab) (deep:=deep) (most:=most) rfl rfl rfl rfl az aA;refine⟨J,?_⟩;rw[J];obtain⟨A,af,ag,ah,ak⟩:∃A:Nat->ByteArray,A 0=⟨#[]⟩/\A 1=⟨#[]⟩/\A 2=⟨#[]⟩/\A 3=Dw x:=⟨λk=>if k=3 then Dw x else⟨#[]⟩,if_neg nO,if_neg nO,if_neg nO,if_pos rfl⟩;have aB:∀W,IW w.heap.size w t.lab tv x.lab iv deep most (A 0) W->jV jI 156 #[nA (U (Z w.heap.size 0 V)),nA (U (Z (w.heap.size+1) 0 V))] W λe w'=>e=nG (nk nI (rC t x))/\IW w.heap.size w t.lab tv x.lab iv deep most (A 1) w':=λW h=>by
   rw[af]at h;rw[ag];exact a4N t x w tv iv E C O aj deep most _ W h
  have aC:∀W,IW w.heap.size w t.lab tv x.lab iv deep most (A 1) W->jV jI 158 #[nA (U (Z (w.heap.size+1) 0 V)),nA (U (Z (w.heap.size+2) 0 V)),nA (U (Z (w.heap.size+3) 0 V))] W λe w'=>e=nG (nk nI (zN x deep most))/\IW w.heap.size w t.lab tv x.lab iv deep most (A 2) w':=λW h=>by
   rw[ag]at h;rw[ah];exact a4O t x w tv iv C deep most _ W h
  have aD:∀W,IW w.heap.size w t.lab tv x.lab iv deep most (A 2) W->jV jI 160 #[nA (U (Z (w.heap.size+1) 0 V)),nA (U (Z (w.heap.size+4) 0 V))] W λe w'=>e=nG (nk nI (LB x))/\IW w.heap.size w t.lab tv x.lab iv deep most (A 3) w':=λW h=>by
   rw[ah]at h;rw[ak];exact a4P t x w tv iv C O ai deep most _ W h
  rw[<-af]at hI;clear af ag ah;refine(MW W _ _ _ (w.heap.size+5) FnT (rC t x) (zN x deep most) (LB x) (λk W=>IW w.heap.size w t.lab tv x.lab iv deep most (A k) W) (λk W h=>IW.f h) hI aB (λ_=>aC) (λ_ _=>aD)).mono ?_;rintro e ae ⟨rfl,N⟩;refine⟨rfl,N.b,λh0=> ?_⟩;unfold zf at h0;by_cases c1:rC t x≠0;.rw[if_pos c1]at h0;exact absurd h0 c1
  .by_cases c2:zN x deep most≠0
   .rw[if_neg c1,if_pos c2]at h0;exact absurd h0 c2
   .rw[if_neg c1,if_neg c2]at N
    rw[ak]at N;exact N.o.cell 0
 obtain⟨ot,ct,rfl,_,_⟩:=E.slice;obtain⟨oi,ci,rfl,_,_⟩:=nW.slice C;obtain⟨R,au⟩:=nV (zf t x deep most);obtain⟨S,av⟩:=nV (Dw x);rw[au,av]at aa⊢;clear au av E C ai aj;go_in;go_upto_region 2 with fail;generalize Q:World.alloc (World.alloc _ _) _=w5;obtain⟨J,hcall⟩:=aa.out w5 _ Q rfl;rw[J]at hcall;have ax:=jH hcall;clear hcall aa Q;rw[show w.heap.size+1+1+1+1=w.heap.size+4 from rfl,show w.heap.size+1+1+1=w.heap.size+3 from rfl,show w.heap.size+1+1=w.heap.size+2 from rfl];go_wp2_with fail;refine ax.mono ?_;rintro e aG ⟨rfl,Y,I⟩;have ay:=jH Y;clear Y ax;by_cases c:R=0
 .have o0:=I c
  subst c;clear I;go_wp2_with fail;go_returns;exact⟨rfl,ay.out⟩
 .have aH:(R !=0)=true:=by simp[c]
  have aI:=jH c;clear c I;go_wp2_with fail;go_returns;exact⟨rfl,ay.out⟩
structure yC where
 iv:jP
 s:List (nM IL)
 bv:jP
 l:List UInt8
 B:Nat
def Lb(x:yC):List jP:=[x.iv,x.bv]
theorem AU(x:yC):(Lb x).length=2:=rfl
abbrev LT:ko:=244
abbrev U8:ko:=5
theorem Oj:LT≠U8:=nO
theorem a4R:wT jI 245 LT 2:=⟨Tryz.underlying245,⟨.agg #[.slice V 0 0,.slice V 0 0],48,by
 obtain⟨i,h1,h2,A,C⟩:=info_parts (show(Tryz.prog.info? LT).map (λi=>(i.zero,i.size,i.bytes))=U (U (nD #[ny V 0 0,ny V 0 0]),2,48)by kernel_rfl);exact⟨i,h1,h2,A,C,nO,rfl⟩⟩,nO⟩
theorem ow.SX{w:jJ}{B:Nat}{l:List UInt8}(h:ow w B e v l):∀b,v.ownBlock=U b->B<=b/\∃cs,nP w b cs e:=by
 rcases h.2 with⟨rfl,_⟩|⟨g,cap,A,rfl,hb,hg,_⟩
 .intro b h;cases h
 .intro b h;cases h;exact⟨hb,A,hg⟩
theorem ow.keep{w w':jJ}{B:Nat}{l:List UInt8}(h:ow w B e v l)(hk:∀b cs,v.ownBlock=U b->nP w b cs e->w'.heap[b]? =w.heap[b]?):ow w' B e v l:=by
 refine⟨h.1,?_⟩;rcases h.2 with h2|⟨g,cap,A,C,hg,hh,r⟩
 .exact .inl h2
 .refine .inr ⟨g,cap,A,C,hg,?_,r⟩
  rw[hk g A (by rw[C];rfl) hh];exact hh
theorem ow.slice{w:jJ}{B:Nat}{l:List UInt8}(h:ow w B e v l):∃oa cap,v=ny oa l.length cap:=by
 rcases h.2 with⟨rfl,h0⟩|⟨g,cap,A,rfl,_⟩
 .exact⟨V,0,by rw[h0]⟩
 .exact⟨_,cap,rfl⟩
theorem ow.far{w w':jJ}{B:Nat}{l:List UInt8}(h:ow w B U8 v l)(hg:w.grownBy w' v.ownBlock):∀c,c<w.heap.size->(c<B\/∃cs,nP w c cs LT)->w'.heap[c]? =w.heap[c]? :=λc hc hh=>by
 refine hg.block c hc λe=> ?_
 obtain⟨h1,cs,h2⟩:=h.SX c e.symm;rcases hh with hh|⟨A,hh⟩
 .omega
 .unfold nP at h2 hh
  rw[h2]at hh;injection hh with hh
  injection hh with _ hh _
  exact Oj hh.symm
theorem ow.Zy{w w':jJ}{B:Nat}{l:List UInt8}(h:ow w B U8 v l)(hg:w.grownBy w' v.ownBlock){c:Nat}(hb:nP w c cs t)(ht:t≠U8):w'.heap[c]? =w.heap[c]? :=by
 refine hg.block c hb.lt λe=> ?_
 obtain⟨_,A,h2⟩:=h.SX c e.symm;unfold nP at h2 hb;rw[h2]at hb;injection hb with hb
 injection hb with _ hb _
 exact ht hb.symm
def JJ(w:jJ)(B1:Nat):Nat->List yC->Prop
 |_,[]=>True
 |hi,x::xs=>B1<=x.B/\x.B<=hi/\ow w x.B U8 x.bv x.l/\(∀b,x.bv.ownBlock=U b->b<hi)/\nW w (λc=>c<B1) x.iv x.s/\JJ w B1 x.B xs
theorem JJ.keep{w w':jJ}{B1:Nat}(hs:w.heap.size<=w'.heap.size)(h1:∀c,c<w.heap.size->c<B1->w'.heap[c]? =w.heap[c]?):∀{st:List yC}{hi A:Nat},JJ w B1 hi st->hi<=A->
  (∀c cs,c<hi->nP w c cs U8->w'.heap[c]? =w.heap[c]?)->JJ w' B1 A st
 |[],_,_,_,_,_=>trivial
 |x::xs,hi,A,⟨a1,a2,a3,a4,a5,a6⟩,hh,hk=>
  ⟨a1,nL,a3.keep λb cs hb hB=>hk b cs (a4 b hb) hB,λb hb=>by have:=a4 b hb;omega,Shape.nX.keep a5 hs (λ_ _ h=>h) λc hc C=>h1 c hc C,
   JJ.keep hs h1 a6 (jK _) λc cs hc hB=>hk c cs nL hB⟩
structure vL(w1 w:jJ)(B1:Nat)(vr:jP)(st:List yC):Prop where
 row:pQ Lb 2 w B1 LT vr st.reverse
 Ij:JJ w B1 w.heap.size st
 pR:jS B1 w1 w
 hB:B1<=w.heap.size
theorem vg{w1 w:jJ}{B1:Nat}{x:yC}{xs:List yC}{N:Nat}(h:vL w1 w B1 vr (x::xs))(O:xs.length=N):∃go C,vr=ny (U (Z go 0 V)) (N+1) C/\
  w.cell? (Z go (N*2) V)=U x.iv/\w.cell? (Z go (N*2+1) V)=U x.bv/\w.frozen? (Z go (N*2) V)=false/\w.frozen? (Z go (N*2+1) V)=false/\N+1<=C:=by
 obtain⟨oa,C,E⟩:=h.row.slice;have Q:(x::xs).reverse.length=N+1:=by simp[O]
 rw[Q]at E;subst E;obtain⟨go,rfl,_,_,_,J,A,I⟩:=pQ.at_ h.row AU (i:=N) (y:=x) (by simp[<-O]);exact⟨go,C,rfl,A 0 nO,A 1 nO,I _,I _,J⟩
theorem rev_at{x:α}{xs:List α}{N:Nat}(A:xs.length=N):(x::xs).reverse[N]? =U x:=by simp[<-A]
theorem SY{x y:α}{xs:List α}{N:Nat}(A:xs.length=N):(x::xs).reverse.set N y=(y::xs).reverse:=by simp[<-A]
section
variable {w1 w w2:jJ}{B1:Nat}{x:yC}{xs:List yC}{N go cr:Nat}
theorem Cc(h:pQ Lb 2 w B1 LT (ny (U (Z go 0 V)) (N+1) cr) (x::xs).reverse):B1<=go/\∃cs,nP w go cs LT:=by
 obtain⟨a,_,b⟩:=h.block go rfl;exact⟨a,b⟩
theorem S9{go c:Nat}{A:Array jP}(h:nP w go cs LT)(h2:nP w c A U8):c≠go:=by
 rintro rfl;unfold nP at h h2;rw[h2]at h;injection h with h
 injection h with _ h _
 exact Oj h.symm
theorem vL.items(h:vL w1 w B1 (ny (U (Z go 0 V)) (N+1) cr) (x::xs))(E:xs.length=N){s:List (nM IL)}(hs:nW w (λc=>c<B1) iv s):
  vL w1 (w.setCell (Z go (N*2) V) iv) B1 (ny (U (Z go 0 V)) (N+1) cr) ({x with iv:=iv,s:=s}::xs):=by
 obtain⟨hg,cs,I⟩:=Cc h.row;have hsz:(w.setCell (Z go (N*2) V) iv).heap.size=w.heap.size:=by simp[kz]
 have hrow:=h.row.set AU (rev_at E) (j:=0) (x:=iv) (z:={x with iv:=iv,s:=s}) nO rfl;rw[SY E,Nat.add_zero]at hrow;have A:∀c,c≠go->(w.setCell (Z go (N*2) V) iv).heap[c]? =w.heap[c]? :=λc hc=>j6 _ _ _ _ hc
 have C:=h.Ij.keep (w':=w.setCell (Z go (N*2) V) iv) (by rw[hsz];exact jK _) (λc _ hc=>A c nL) (jK _) λc J _ hB=>A c (S9 I hB)
 rw[<-hsz]at C;obtain⟨a1,a2,a3,a4,a5,a6⟩:=C;exact⟨hrow,⟨a1,a2,a3,a4,Shape.nX.keep hs (by rw[hsz];exact jK _) (λ_ _ h=>h) λc _ hc=>A c nL,a6⟩,⟨h.pR.os,h.pR.tape,h.pR.output,by rw[hsz];exact h.pR.size,λc hc=>(A c nL).trans (h.pR.block c hc)⟩,by rw[hsz];exact h.hB⟩
theorem vL.bytes(h:vL w1 w B1 (ny (U (Z go 0 V)) (N+1) cr) (x::xs))(aa:xs.length=N){l:List UInt8}(I:ow w2 x.B U8 bv l)(E:w.heap.size<=w2.heap.size)(J:w2.os=w.os/\w2.tape=w.tape/\w2.output=w.output)(hk:∀c,c<w.heap.size->(c<x.B\/∃cs,nP w c cs LT)->w2.heap[c]? =w.heap[c]?):
  vL w1 (w2.setCell (Z go (N*2+1) V) bv) B1 (ny (U (Z go 0 V)) (N+1) cr) ({x with bv:=bv,l:=l}::xs):=by
 obtain⟨hg,cs,C⟩:=Cc h.row;obtain⟨a1,a2,a3,a4,a5,a6⟩:=h.Ij;have Y:nP w2 go cs LT:=by unfold nP;rw[hk go C.lt (.inr ⟨cs,C⟩)];exact C
 have O:pQ Lb 2 w2 B1 LT (ny (U (Z go 0 V)) (N+1) cr) (x::xs).reverse:=h.row.keep λb hb=>by
  simp[kJ]at hb;subst hb;exact hk _ C.lt (.inr ⟨cs,C⟩)
 have hsz:(w2.setCell (Z go (N*2+1) V) bv).heap.size=w2.heap.size:=by simp[kz]
 have hrow:=O.set AU (rev_at aa) (j:=1) (x:=bv) (z:={x with bv:=bv,l:=l}) nO rfl;rw[SY aa]at hrow;have A:∀c,c≠go->(w2.setCell (Z go (N*2+1) V) bv).heap[c]? =w2.heap[c]? :=λc hc=>j6 _ _ _ _ hc
 refine⟨hrow,⟨a1,(by show x.B<=_;rw[hsz];omega),I.keep λb Q _ hB=>A b (S9 Y hB),λb hb=> ?_,?_,?_⟩,?_,by rw[hsz];have:=h.hB;omega⟩
 .obtain⟨_,Q,hB⟩:=I.SX b hb
  rw[hsz];exact hB.lt
 .exact Shape.nX.keep a5 (by rw[hsz];exact E) (λ_ _ h=>h) λc hc ae=>(A c nL).trans (hk c hc (.inl nL))
 .exact a6.keep (by rw[hsz];exact E) (λc hc ae=>(A c nL).trans (hk c hc (.inl nL))) (jK _) λc Q hc hB=>(A c (S9 C hB)).trans (hk c hB.lt (.inl hc))
 .refine⟨J.1.trans h.pR.os,J.2.1.trans h.pR.tape,J.2.2.trans h.pR.output,by rw[hsz];exact jY h.pR.size E,λc hc=>(A c nL).trans ((hk c (by have:=h.hB;omega) (.inl nL)).trans (h.pR.block c hc))⟩
theorem vL.push{st:List yC}{I w':jJ}{g cap:Nat}{f:yC}(h:vL w1 w B1 vr st)(A:jS w.heap.size w I)(hrow:pQ Lb 2 w' B1 LT (ny (U (Z g 0 V)) (st.length+1) cap) (st.reverse++[f]))(hg:I.grownBy w' vr.ownBlock)(hs:nW w (λc=>c<B1) f.iv f.s)(C:f.bv=ny V 0 0/\f.l=[]/\f.B=w'.heap.size):vL w1 w' B1 (ny (U (Z g 0 V)) (st.length+1) cap) (f::st):=by
 have hsz:w.heap.size<=w'.heap.size:=jY A.size hg.size;have E:∀b,vr.ownBlock=U b->B1<=b/\∃cs,nP w b cs LT:=λb hb=>by obtain⟨a,_,b⟩:=h.row.block b hb;exact⟨a,b⟩
 have hk:∀c,c<w.heap.size->vr.ownBlock≠U c->w'.heap[c]? =w.heap[c]? :=λc hc N=>(hg.block c (kG hc A.size) (λe=>N e.symm)).trans (A.block c hc)
 have h1:∀c,c<w.heap.size->c<B1->w'.heap[c]? =w.heap[c]? :=λc hc Q=>hk c hc λe=>by have:=(E c e).1;omega
 have hB:=h.hB;refine⟨by rw[List.reverse_cons];exact hrow,⟨by rw[C.2.2];omega,by rw[C.2.2];exact jK _,by rw[C.1,C.2.1];exact ow.nil _ _ _,λb hb=>by rw[C.1]at hb;simp[kJ]at hb,Shape.nX.keep hs hsz (λ_ _ h=>h) h1,?_⟩,?_,nL⟩
 .rw[C.2.2]
  exact h.Ij.keep hsz h1 hsz λc O hc J=>hk c hc λe=>by
   obtain⟨_,cs,hL⟩:=E c e;exact S9 hL J rfl
 .exact⟨hg.os.trans (A.os.trans h.pR.os),hg.tape.trans (A.tape.trans h.pR.tape),hg.output.trans (A.output.trans h.pR.output),jY h.pR.size hsz,λc hc=>(h1 c nL hc).trans (h.pR.block c hc)⟩
theorem vL.pop(h:vL w1 w B1 (ny (U (Z go 0 V)) (N+1) cr) (x::xs))(hN:xs.length=N):vL w1 w B1 (ny (U (Z go 0 V)) N cr) xs:=by
 obtain⟨a1,a2,a3,a4,a5,a6⟩:=h.Ij;refine⟨?_,a6.keep (jK _) (λ_ _ _=>rfl) a2 λ_ _ _ _=>rfl,h.pR,h.hB⟩;have:=pQ.cut h.row AU (m:=N) (by simp[hN]);exact XT
end
theorem vL.below{w1 w w':jJ}{B1:Nat}{st:List yC}(h:vL w1 w B1 vr st)(hb:jS w.heap.size w w'):vL w1 w' B1 vr st:=
 ⟨h.row.below hb,h.Ij.keep hb.size (λc hc _=>hb.block c hc) hb.size (λc cs _ hB=>hb.block c hB.lt),h.pR.trans (hb.mono h.hB),jY h.hB hb.size⟩
def Ta:List yC->List UInt8->List UInt8
 |[],b=>b
 |x::xs,b=>Ta xs (x.l++(hdr 192 b.length++b)++wh x.s)
def Ce:List yC->List UInt8
 |[]=>[]
 |x::xs=>Ta xs (x.l++wh x.s)
theorem Zz:∀(st:List yC)(b:List UInt8),b.length<=(Ta st b).length/\∀x,x∈st->x.l.length<=(Ta st b).length
 |[],b=>⟨jK _,λx h=>by cases h⟩
 |x::xs,b=>by
  obtain⟨h1,h2⟩:=Zz xs (x.l++(hdr 192 b.length++b)++wh x.s);simp only[j5]at h1;refine⟨by simp only[Ta];omega,λy A=> ?_⟩;rcases mM.1 A with rfl|A
  .simp only[Ta];omega
  .exact h2 y A
theorem a2e{x:yC}{xs:List yC}:x.l.length+(wh x.s).length<=(Ce (x::xs)).length/\∀y,y∈xs->y.l.length<=(Ce (x::xs)).length:=by
 obtain⟨h1,h2⟩:=Zz xs (x.l++wh x.s);simp only[j5]at h1;exact⟨h1,h2⟩
def Bt(st:List yC):Nat:=(st.map λx=>2*nM.nZ x.s).sum+st.length
theorem ZA{P:Nat->Prop}:∀n,P n->∃m,P m/\∀k,P k->m<=k:=by
 intro n;induction n using Nat.strongRecOn with
 |_ n C=>
  intro h;rcases Classical.em (∃k,k<n/\P k)with⟨k,hk,hp⟩|hn
  .exact C k hk hp
  .exact⟨n,h,λk hp=>by
    rcases kZ k n with A|A
    .exact absurd ⟨k,A,hp⟩ hn
    .exact A⟩
theorem ZB(P:α->Nat->Prop):∃m:α->Nat,∀a n,P a n->P a (m a)/\m a<=n:=by
 have h:∀a,∃m,∀n,P a n->P a m/\m<=n:=λa=>by
  rcases Classical.em (∃n,P a n)with⟨n,hn⟩|hn
  .obtain⟨m,h1,h2⟩:=ZA n hn
   exact⟨m,λk hk=>⟨h1,h2 k hk⟩⟩
  .exact⟨0,λk hk=>absurd ⟨k,hk⟩ hn⟩
 obtain⟨f,A⟩:=Classical.axiomOfChoice h;exact⟨f,A⟩
def Hy(w4 w:jJ)(B1:Nat)(E:List UInt8)(vr:jP)(st:List yC):Prop:=st≠[]/\vL w4 w B1 vr st/\Ce st=E
theorem a2f{w w3 w4:jJ}{x:nM IL}{J:Nat}(aa:nW w (λc=>c<J) v x.sub)(ae:x.lab.text.length<=j3)(N:J<=w.heap.size)(E:w.alloc (nH #[nz (txt x.lab),nC x.lab.list,v] IT)=w3)(C:w3.alloc (nH #[ny (U (Z w.heap.size 0 V)) 1 1,ny V 0 0] LT)=w4):
  Hy w4 w4 (w.heap.size+1) (enc x) (ny (U (Z (w.heap.size+1) 0 V)) 1 1) [⟨ny (U (Z w.heap.size 0 V)) 1 1,[x],ny V 0 0,[],w.heap.size+2⟩]/\jS w.heap.size w w4:=by
 obtain⟨g,hg⟩:=nV w.heap.size;rw[hg]at C N⊢;have O:w3.heap.size=g+1:=by rw[<-E];simp;omega
 have ai:w4.heap.size=g+2:=by rw[<-C];simp;omega
 have b3:jS g w w3:=by rw[<-E,<-hg];exact(jT _ w).alloc (jK _) _
 have b4:jS (g+1) w3 w4:=by rw[<-C,<-O];exact(jT _ w3).alloc (jK _) _
 have af:nP w3 g #[nz (txt x.lab),nC x.lab.list,v] IT:=by have:=nP.new w #[nz (txt x.lab),nC x.lab.list,v] IT;rw[E,hg]at this;exact this
 have Q:=Below.blk b4 af nL;have ag:nP w4 (g+1) #[ny (U (Z g 0 V)) 1 1,ny V 0 0] LT:=by have:=nP.new w3 #[ny (U (Z g 0 V)) 1 1,ny V 0 0] LT;rw[C,O]at this;exact this
 have A:jS g w w4:=b3.trans (b4.mono nL);have Y:nW w4 (λc=>c<g+1) v x.sub:=Shape.nX.keep aa A.size (λc _ hc=>by show c<g+1;omega) λc hc aj=>A.block c nL
 have I:nW w4 (λc=>c<g+1) (ny (U (Z g 0 V)) 1 1) [x]:=by
  refine⟨U (Z g 0 V),1,rfl,jK _,nO,λ_=>⟨g,0,rfl,nL,nL,?_⟩⟩;simp only[Shape.qy];refine⟨?_,trivial⟩;cases x with
  |node a s=>
   simp only[Shape.rz];refine⟨ae,v,λj ah=> ?_,Y⟩;rw[Q.cell];have:j<3:=ah
   match j,this with
   |0,_=>rfl
   |1,_=>rfl
   |2,_=>rfl
 refine⟨⟨nS,⟨?_,⟨by show g+1<=g+2;omega,by show g+2<=_;omega,ow.nil _ _ _,λb hb=>by simp[kJ]at hb,I,trivial⟩,jT _ _,nL⟩,?_⟩,A⟩;.exact pQ.of (f:=Lb) (k:=2) (L:=[⟨ny (U (Z g 0 V)) 1 1,[x],ny V 0 0,[],g+2⟩]) nL ag nS nO rfl AU rfl
 .simp[Ce,Ta,wh]
theorem Vk{x y:yC}{xs:List yC}{E:List UInt8}(h:Ce (x::y::xs)=E)(A:x.s=[]):Ce ({y with bv:=bv,l:=y.l++hdr 192 x.l.length++x.l}::xs)=E:=by
 rw[<-h];simp[Ce,Ta,A,wh]
theorem ZC{x:yC}{xs:List yC}{E:List UInt8}{sub s:List (nM IL)}(h:Ce (x::xs)=E)(A:x.s=.node a sub::s)(C:a.list=false):
  Ce (⟨iv,s,bv,x.l++(if single a.text then a.text else hdr 128 a.text.length++a.text),x.B⟩::xs)=E:=by
 rw[<-h];simp[Ce,A,wh,GQ,C]
theorem ZE{x:yC}{xs:List yC}{E:List UInt8}{sub s:List (nM IL)}(h:Ce (x::xs)=E)(A:x.s=.node a sub::s)(C:a.list=true){v2:jP}{B2:Nat}:
  Ce (⟨v2,sub,ny V 0 0,[],B2⟩::{x with iv:=iv,s:=s}::xs)=E:=by
 rw[<-h];simp[Ce,Ta,A,wh,GQ,C]
theorem Vl:∀(st:List yC)(b:List UInt8),st.length<=(Ta st b).length
 |[],b=>kH _
 |x::xs,b=>by
  have key:∀(st:List yC)(b:List UInt8),b.length+st.length<=(Ta st b).length:=by
   intro st;induction st with
   |nil=>intro b;simp[Ta]
   |cons z zs A=>
    intro b;have h1:=A (z.l++(hdr 192 b.length++b)++wh z.s);have h2:=a0O 192 b.length;simp only[j5]at h1;simp only[Ta,kF];omega
  have:=key (x::xs) b;omega
theorem QL{x:yC}{xs:List yC}:xs.length<=(Ce (x::xs)).length:=Vl xs _
theorem QM{s:ko}(T:pX P t e s){rest:List lY}{o:lY}{a:Act}{Q:Exit->Act->jJ->Prop}(C:o.guard=V)(x y:Operand)(ho:o.op=.call {callee:=.builtin .append,args:=#[x,y],argTypes:=#[t,t]})(B ag:Nat)(v u:jP)(l m:List UInt8)(w:jJ)(E:a.eval x=v)(A:ow w B e v l)(I:ow w ag e u m)(J:a.eval y=u)(hlen:l.length+m.length<=140737488355328)(hB:B<=w.heap.size)(h:∀v' w',ow w' B e v' (l++m)->w.grownBy w' v.ownBlock->wpList P ops Q rest (a.put o.dst v') w'):
  wpList P ops Q (o::rest) a w:=by
 obtain⟨N,hi,O,Y,aa⟩:=info_parts T.hi;rcases I.2 with⟨hn,h0⟩|⟨g,cap,ai,ae,hb,hg,ah,aj,hsz,htake⟩
 .have af:m=[]:=mU.1 h0
  subst af;refine wpList_append_own_none C x y t ho B e N 1 T.ht hi v l.length (nU l) E A (by rw[J,hn]) ?_;exact h v w (by rw[List.append_nil];exact A) ⟨rfl,rfl,rfl,jK _,λ_ _ _=>rfl⟩
 .refine wpList_append_own _ C x y t ho B e N (nk .u8 0) 1 1 T.ht hi O Y aa rfl nO v l.length (nU l) E A (Z g 0 V) m.length cap (nU m) (by rw[J,ae]) nS
   (World.ownsRow.cells I (by rw[ae];rfl)) (rO m) yD nL hB ?_
  intro v' w' h1 h2 _;refine h v' w' ?_ h2;show w'.ownsRow B e 1 v' (l++m).length (nU (l++m));rw[j5,o8];exact h1
theorem a2g{w w5 A:jJ}{B:Nat}{v':jP}{l E:List UInt8}(h:ow w B U8 v l)(hg:w.grownBy w5 v.ownBlock)(I:ow w5 B U8 v' E)(C:w5.grownBy A v'.ownBlock):
  ∀c,c<w.heap.size->(c<B\/∃cs,nP w c cs LT)->A.heap[c]? =w.heap[c]? :=λc hc hh=>by
 have h1:=h.far hg c hc hh;have h2:=I.far C c (kG hc hg.size) (hh.imp id λ⟨cs,hb⟩=>⟨cs,by unfold nP;rw[h1];exact hb⟩);rw[h2,h1]
theorem cell_of_heap{w w':jJ}{b:Nat}(h:w'.heap[b]? =w.heap[b]?)(i:Nat):w'.cell? (Z b i V)=w.cell? (Z b i V)/\w'.frozen? (Z b i V)=w.frozen? (Z b i V):=
 ⟨World.cell?_of_block (w:=w) (a:=(Z b i V)) h,World.frozen?_of_block (w:=w) (a:=(Z b i V)) h⟩
theorem Ol{y y2:yC}{zs:List yC}{l:List UInt8}:Bt ({y2 with bv:=bv,l:=l}::zs)<Bt (y::y2::zs):=by
 simp[Bt];omega
theorem Vm{w:jJ}{Q:Nat->Prop}{b off n c:Nat}{y:nM IL}{s:List (nM IL)}(h:nW w Q (ny (U (Z b off V)) (n+1) c) (y::s)):nW w Q (ny (U (Z b (off+3) V)) n (c - 1)) s:=by
 obtain⟨oa,cap,e,h1,h2,E⟩:=h;have hl:n=s.length:=by
  injection e with _ e _
  simpa using e
 subst hl;injection e with e1 _ e3
 subst e1 e3;obtain⟨b',J,A,hb,I,C⟩:=E nS;injection A with A
 injection A with e4 e5
 subst e4 e5;simp only[Shape.qy]at C;exact⟨_,_,rfl,by simp at h1;omega,nL,λhn=>⟨_,_,rfl,hb,I,C.2⟩⟩
theorem a6N{w:jJ}{B:Nat}{L:List yC}{f A:yC}(h:pQ Lb 2 w B LT v (L++[f]))(h1:f.iv=A.iv)(h2:f.bv=A.bv):pQ Lb 2 w B LT v (L++[A]):=by
 unfold pQ at*;have e:(L++[f]).flatMap Lb=(L++[A]).flatMap Lb:=by simp[Lb,h1,h2]
 rw[e]at h;simpa using h
theorem QN{y:yC}{ys:List yC}{sub s:List (nM IL)}(A:y.s=.node a sub::s){v2:jP}{l:List UInt8}{B2:Nat}:Bt (⟨v2,sub,bv,l,B2⟩::{y with iv:=iv,s:=s}::ys)<Bt (y::ys):=by
 simp[Bt,A,nM.nZ,nM.count];omega
theorem Hz{y:yC}{ys:List yC}{sub s:List (nM IL)}(A:y.s=.node a sub::s){l:List UInt8}{B2:Nat}:Bt (⟨iv,s,bv,l,B2⟩::ys)<Bt (y::ys):=by
 simp[Bt,A,nM.nZ,nM.count];omega
theorem vk{s:ko}(T:pX P t e s){o:lY}{a:Act}{K:Act->jJ->Prop}{Q:Exit->Act->jJ->Prop}{E:Prop}(C:o.guard=V)(x y:Operand)(ho:o.op=.call {callee:=.builtin .append,args:=#[x,y],argTypes:=#[t,s]})(B:Nat)(v:jP)(l:List UInt8)(S:ByteArray)(w:jJ)(O:a.eval x=v)(A:ow w B e v l)(Y:a.eval y=nz S)(hlen:l.length+S.size<=140737488355328)(hB:B<=w.heap.size)(h:∀v' w',ow w' B e v' (l++S.data.toList)->w.grownBy w' v.ownBlock->K (a.put o.dst v') w'):
  if Region.wanted o (yielded ops a.tmps)=true then Oper.wp P o a w K Q else E:=by
 have aa:Region.wanted o (yielded ops a.tmps)=true:=by simp[Region.wanted,C]
 rw[if_pos aa];obtain⟨ae,hi,I,J,N⟩:=info_parts T.hi;obtain⟨v',w',af,h1,h2,_⟩:=Lib.run_append_own_string (P:=P) w B t s o.type e ae T.ht T.hs hi I J N v l.length (nU l) A S yD nL hB;unfold Oper.wp execOp;simp only[ho,resolve,invoke,builtin,Sem.run_bind,Sem.run_pure,Result.andThen_ok,List.map_toArray,mQ,List.map_nil,O,Y];rw[af];refine h v' w' ?_ h2;have e1:mD S=nU S.data.toList:=by simp[mD,nU]
 show w'.ownsRow B e 1 v' (l++S.data.toList).length (nU (l++S.data.toList));rw[j5,o8,<-e1];have e2:S.data.toList.length=S.size:=nS;rw[e2];exact h1
theorem QO{w:jJ}{Q:Nat->Prop}{b off n c:Nat}{y:nM IL}{s:List (nM IL)}(h:nW w Q (ny (U (Z b off V)) (n+1) c) (y::s)):
  nW w Q (ny (if c=1 then U (Z b off V)else U (Z b (off+3) V)) n (c - 1)) s:=by
 by_cases h1:c=1
 .rw[if_pos h1]
  obtain⟨oa,cap,e,h2,A,_⟩:=h;have hl:n=s.length:=by
   injection e with _ e _
   simpa using e
  injection e with _ _ e3
  subst e3 hl;have:s.length=0:=by simp at h2;omega
  exact⟨_,_,rfl,nL,nL,λhn=>by omega⟩
 .rw[if_neg h1];exact Vm h
theorem ZF{p:Prop}(h:p:=by
 go_simp;refine hK _ _ trivial (λQP=> ?_);clear hK K;try simp only[kE,jL,jQ,jR]
 refine wpAnyH_done nN ?_ _;have hfin:=a6O.out (ny oA ns (ic - 1)) (ny so9 nl9 sc9);rw[show y.l++(if single a.text then a.text else hdr 128 a.text.length++a.text)=y.l++hdr 128 a.text.length++(txt a).data.toList by rw[Tc.out,mG];rfl]at hfin;have H5:=jH (show Hy w4 _ B1 E _ _ from⟨nS,HN9.out,hfin⟩);clear hfin;go_wp2_with fail;go_roundw;case rel=>exact⟨_,H5⟩
 case measure=>
  have h1:=(HME (_,_) _ ⟨_,H5.out,rfl⟩).2;have h3:=Hz (ys:=ys) HYS (iv:=ny oA ns (ic - 1)) (bv:=ny so9 nl9 sc9) (l:=(y.l++hdr 128 a.text.length)++(txt a).data.toList) (B2:=y.B);rw[a2h.out]at h3;exact mr h1 h3):p:=h
theorem QQ(x:nM IL)(w:jJ)(v:jP)(dY:pJ w v x.sub)(gH:x.lab.text.length<=j3)(gI:rZ x=true)(iP:(enc x).length<=100000):
  jV jI 161 #[nD #[nz (txt x.lab),nC x.lab.list,v]] w λe w'=>e=nG (nE #[nz ⟨(enc x).toArray⟩,nk nI 0])/\jS w.heap.size w w':=by
 have dZ:=jH (rT (T:=txt x.lab) (l:=x.lab.list) (t:=IT) dY);have gJ:=jH dY;obtain⟨oa,cap,rfl,fJ,gK⟩:=nW.slice dY;obtain⟨g,hg⟩:=nV w.heap.size;have ed:=jH (λ(W:jJ) (h:pJ W (ny oa x.sub.length cap) x.sub)=>Gl x W _ h);rw[gI]at ed;obtain⟨E,dA⟩:=nV (enc x);rw[dA]at iP⊢;have iQ:=jH gH;have gL:=jH dA;obtain⟨M,gM⟩:=nV x.sub.length;rw[hg]at dZ⊢;rw[gM]at dZ ed gJ⊢;clear dY fJ gK gH gI dA gM;go_in;go_upto_region 1 with fail;generalize w.alloc (nH #[nz (txt x.lab),nC x.lab.list,ny oa M cap] IT)=w1 at*;obtain⟨eF,ht1,hsz,c0,c1,c2,_⟩:=dZ.out _ rfl;have gN:=jH ht1;have gP:=jH eF;have fK:w1.heap.size=g+1:=hsz;clear dZ ht1 eF hsz;go_wp2_with fail;refine(ed _ gN).mono ?_;rintro e w2 ⟨rfl,aT⟩;have jC:=(aT.cell (p:=(Z g 0 V)) (show g<w1.heap.size by omega)).trans c0;have jD:=(aT.cell (p:=(Z g 1 V)) (show g<w1.heap.size by omega)).trans c1;have d2:=(aT.cell (p:=(Z g 2 V)) (show g<w1.heap.size by omega)).trans c2;have eG:jX (nW w2 (λc=>c<g) (ny oa M cap) x.sub):=jH (by
  have h2:=gP.trans (aT.mono (show g<=w1.heap.size by omega));exact Shape.nX.keep gJ h2.size (λc hc _=>by omega) λc hc _=>h2.block c nL)
 have gQ:=jH (gP.trans (aT.mono (show g<=w1.heap.size by omega)));have iR:g+1<=w2.heap.size:=by have:=aT.size;omega
 clear aT ed;have bR:jX (∀w3 w4,w2.alloc (nH #[nz (txt x.lab),nC x.lab.list,ny oa M cap] IT)=w3->w3.alloc (nH #[ny (U (Z w2.heap.size 0 V)) 1 1,ny V 0 0] LT)=w4->_):=jH λw3 w4 h3 iT=>a2f eG iQ (by omega:g<=w2.heap.size) h3 iT
 rw[gL.out]at bR;clear c0 c1 c2;go_wp2_with fail;have fM:=bR.out _ _ rfl rfl;generalize (w2.alloc (nH #[nz (txt x.lab),nC x.lab.list,ny oa M cap] IT)).alloc (nH #[ny (U (Z w2.heap.size 0 V)) 1 1,ny V 0 0] LT)=w4 at*;obtain⟨dB,dC⟩:=fM;have bS:=jH dB;have fO:=jH (gQ.trans (dC.mono nL));obtain⟨B1,dD⟩:=nV (w2.heap.size+1);have fP:g<=B1:=nL;rw[dD]at bS;have dE:=jH dD;clear dD;clear dB dC bR eG gN;obtain⟨fQ,bZ⟩:=ZB (λ(z:jP×jJ) n=>∃st,Hy w4 z.2 B1 E z.1 st/\Bt st=n);have HME:=jH bZ;clear bZ;go_loopw [5] (λvr fT=>∃st,jX (Hy w4 fT B1 E vr st)) (λvr fT=>fQ (vr,fT));case atStart=>exact⟨_,by rw[<-dE.out];rw[<-dE.out]at bS;exact bS⟩
 case round=>
  obtain⟨gT,eH⟩:=hrel;obtain⟨⟨st,hst,dF⟩,_⟩:=HME.out (_,_) _ ⟨gT,eH.out,rfl⟩;simp only at hst;have a2h:=jH dF;clear dF eH;cases st with
  |nil=>exact absurd rfl hst.1
  |cons y ys=>
   obtain⟨N,ek⟩:=nV ys.length;obtain⟨go,fU,gU,r0,r1,z0,iU,jk⟩:=vg hst.2.1 ek;subst gU;have hlen:=a2e (x:=y) (xs:=ys);rw[hst.2.2]at hlen;obtain⟨a1,a2,a3,a4,a5,a6⟩:=hst.2.1.Ij;obtain⟨jE,ic,dG,dH,iV⟩:=nW.slice a5;obtain⟨bo,bc,dI⟩:=a3.slice;have aP:=jH hst;have ai:=jH ek;have bT:=jH hlen;have bU:=jH a3;have gV:=jH a5;have iW:=jH (jU a1 a2);have iX:N<=100000:=by have:=QL (x:=y) (xs:=ys);rw[hst.2.2,ek]at this;omega
   rw[dG]at r0;rw[dI]at r1;have eO:=jH dG;have aU:=jH dI;clear hst ek hlen a1 a2 a3 a4 a5 a6 dG dI;cases aQ:y.s with
   |nil=>
    rw[aQ]at r0;simp only[List.length_nil]at r0;by_cases eP:N=0
    .subst eP
     have dJ:ys=[]:=mU.1 ai.out;have eQ:y.l=E:=by
      have:=aP.2.2;rw[dJ]at this;simpa [Ce,Ta,aQ,wh]using this
     have fV:=(bU.out).string Ch;rw[aU.out]at fV;have gW:=jH eQ;have iY:jX (jS g w wr):=jH (fO.trans (aP.2.1.pR.mono fP));clear dJ eQ;go_wp2_with fail;go_returns;exact⟨by rw[<-gW.out];rfl,iY.out⟩
    .obtain⟨y2,zs,rfl⟩:∃y2 zs,ys=y2::zs:=by
      cases ys with
      |nil=>exact absurd ai.symm eP
      |cons a b=>exact⟨a,b,rfl⟩
     obtain⟨dK,rfl⟩:∃dK,N=dK+1:=⟨N - 1,nL⟩;have eT:zs.length=dK:=by have:=ai.out;simpa using this
     have bB:=aP.2.1.pop ai.out;obtain⟨gX,gY,he,eu,dL,gZ,z3,_⟩:=vg bB eT;injection he with Y _ aV
     injection Y with Y
     injection Y with Y
     subst Y aV;obtain⟨b1,iZ,b3,b4,_,_⟩:=aP.2.1.Ij.2.2.2.2.2;have jl:y2.l.length<=100000:=by have:=bT.2 y2 (List.mem_cons_self ..);omega
     have jm:y.l.length<=100000:=by have:=bT.1;omega
     have eU:y2.B<=wr.heap.size:=by have:=iW.2;omega
     have bG:=jH (Hm 192 y.l.length y2.B y2.bv y2.l wr (.inr rfl) nL b3 nL eU);obtain⟨jo,jq,bC⟩:=b3.slice;have eX:=jH b3;have ib:=jH b4;have fZ:=jH bB;have eY:∃cs,nP wr go cs LT:=by obtain⟨_,_,cs,h⟩:=bB.row.block go rfl;exact⟨cs,h⟩
     have eZ:=jH eY;rw[bC]at dL;have bV:=jH bC;rw[bC]at bG;have ig:=Kt 192 y.l.length nL;clear bB b1 iZ b3 b4 bC eY;go_upto_region 12 with fail;go_wp2_with fail;refine bG.mono ?_;rintro e w5 ⟨v5,rfl,cz,bH⟩;obtain⟨cs,aj⟩:=eZ.out;have gm:=cell_of_heap (eX.far (by rw[bV.out];exact bH) go aj.lt (.inr ⟨cs,aj⟩));have aW:ow w5 y.B U8 y.bv y.l:=bU.keep λb jr hb hB=>bH.block b hB.lt λe=>by
      have h1:=ib.out b (by rw[bV.out];exact e.symm);have h2:=(bU.SX b hb).1;omega
     rw[aU.out]at aW;have ik:y2.B<=w5.heap.size:=jY eU bH.size;have cK:=jH (jU cz bH);have gp:=jH aW;clear cz bH aW aj gm;go_wp2_with (at_builtin;go_loud (refine QM Ch rfl _ _ rfl y2.B y.B v5 (ny bo y.l.length bc) (y2.l++hdr 192 y.l.length) y.l w5 rfl cK.1 gp rfl nT ik ?_);intro v6 aB bD dM;obtain⟨fq,fu,fw,iq⟩:∃aX n aY,v6=ny aX n aY:=(by obtain⟨a,b,h⟩:=bD.slice;exact⟨a,_,b,h⟩);subst iq;have fA:=jH (jU bD dM);obtain⟨cs,aj⟩:=eZ.out;have dN:=a2g eX (by rw[bV.out];exact cK.2) cK.1 dM;have gq:=cell_of_heap (dN go aj.lt (.inr ⟨cs,aj⟩)) (dK*2+1);have jF:=gq.1.trans dL;have dw:=gq.2.trans z3;have iw:=jH dN;clear bD dM aj dN gq);have bI:=cK.2;have bJ:=fA.2;have eB:wr.heap.size<=aB.heap.size:=jY bI.size bJ.size;have aL:=vL.bytes (x:=y2) (xs:=zs) (N:=dK) fZ eT (l:=y2.l++hdr 192 y.l.length++y.l) fA.1 eB ⟨bJ.os.trans bI.os,bJ.tape.trans bI.tape,bJ.output.trans bI.output⟩ iw.out;have hfin:=Vk (x:=y) (y:=y2) (xs:=zs) aP.2.2 aQ (bv:=ny fq fu fw);have H5:=jH (show Hy w4 _ B1 E _ _ from⟨nS,aL,hfin⟩);clear aL hfin bI bJ;go_roundw;case rel=>exact⟨_,H5⟩
     case measure=>
      have h1:=(HME (_,_) _ ⟨_,H5.out,rfl⟩).2;have h2:=a2h.out;have h3:=Ol (y:=y) (y2:=y2) (zs:=zs) (bv:=ny fq fu fw) (l:=y2.l++hdr 192 y.l.length++y.l);rw[h2]at h3;exact mr h1 h3
   |cons t dx=>
    rw[aQ]at r0;simp only[kF]at r0;obtain⟨a,sub⟩:=t;have hit:=gV.out;rw[eO.out,aQ]at hit;simp only[kF]at hit;obtain⟨b,off,u,iy,ja,jv,iA,iB,iC,eD,cZ⟩:=nW.at_ hit (i:=0) (x:=.node a sub) rfl;subst iy;simp only[Nat.zero_mul,Nat.add_zero,nM.oZ,nM.qx]at iA iB iC eD cZ;obtain⟨aF,aG,fB,iD,_⟩:=nW.slice eD;obtain⟨aH,fC⟩:=nV sub.length;rw[fC]at fB;subst fB;obtain⟨ns,dO⟩:=nV dx.length;have iE:=jH dO;rw[dO]at r0 hit;have bW:=QO hit;obtain⟨oA,iF⟩:∃oA,(if ic=1 then(U (Z b off V):Option lH)else U (Z b (off+3) V))=oA:=⟨_,rfl⟩;rw[iF]at bW;have gu:=jH bW;clear bW;have jb:=jH eD;have a6Q:ns+1<=ic:=by rw[aQ]at dH;simp at dH;omega
    have HYS:=jH aQ;have fD:jX (∀W,wr.alloc (nH #[nz (txt a),nC a.list,ny aF aH aG] IT)=W->vL w4 W B1 (ny (U (Z go 0 V)) (N+1) fU) (y::ys)/\nP W wr.heap.size #[nz (txt a),nC a.list,ny aF aH aG] IT/\jS wr.heap.size wr W):=jH λW h=>by
     subst h;have cZ:=(jT _ wr).alloc (jK _) (nH #[nz (txt a),nC a.list,ny aF aH aG] IT);exact⟨aP.2.1.below cZ,nP.new wr _ _,cZ⟩
    clear eD hit aQ dH iD fC dO;go_upto_region 14 with fail;generalize wr.alloc (nH #[nz (txt a),nC a.list,ny aF aH aG] IT)=w5 at*;obtain⟨df,aI,bX⟩:=fD.out _ rfl;obtain⟨gX,gY,he,eu,dL,gZ,z3,_⟩:=vg df ai.out;injection he with Y _ aV
    injection Y with Y
    injection Y with Y
    subst Y aV;obtain⟨iG,jw,aj⟩:=Cc df.row;have fE:go≠wr.heap.size:=by
     rintro rfl;unfold nP at aj aI;rw[aI]at aj;injection aj with aj
     injection aj with _ aj _
     exact absurd aj nO
    have bE:wr.heap.size≠go:=λh=>fE h.symm
    have gy:jX (nW w5 (λc=>c<B1) (ny oA ns (ic - 1)) dx):=jH (Shape.nX.below gu bX);have iH:jX (nW w5 (λc=>c<B1) (ny aF aH aG) sub):=jH (Shape.nX.below jb bX);have fF:=jH df;have iI:=jH aI;obtain⟨jc,n1,n2⟩:=aI.a3;rw[eO.out,HYS.out]at eu;simp only[kF,iE.out]at eu;rw[aU.out]at dL;clear df aI bX fD aj iG r0 r1 z0 iU iA iB iC;have aR:=jH (fF.items ai gy);have jy:jX (∀i v,(w5.setCell (Z go i V) v).heap[wr.heap.size]? =w5.heap[wr.heap.size]?):=jH λi v=>j6 _ _ _ _ bE
    have iJ:(w5.setCell (Z go (N*2) V) (ny oA ns (ic - 1))).cell? (Z go (N*2+1) V)=U (ny bo y.l.length bc):=by
     obtain⟨_,_,e,_,e2,_⟩:=vg aR ai.out;injection e with e _ _
     injection e with e
     injection e with e
     subst e;rw[e2];exact congrArg U aU.out
    have aM:jX (nP (w5.setCell (Z go (N*2) V) (ny oA ns (ic - 1))) wr.heap.size #[nz (txt a),nC a.list,ny aF aH aG] IT):=jH (iI.setOther (a:=(Z go (N*2) V)) bE _);have iK:jX (nW (w5.setCell (Z go (N*2) V) (ny oA ns (ic - 1))) (λc=>c<B1) (ny aF aH aG) sub):=jH (Shape.nX.keep iH (by simp[kz]) (λ_ _ h=>h) λc _ hc=>j6 _ _ _ _ (λe=>by
     have h1:=(Cc fF.row).1;have:c<B1:=hc;simp only at e;omega))
    go_upto_region 15 with fail;generalize w5.setCell (Z go (N*2) V) (ny oA ns (ic - 1))=aB at*;obtain⟨jd,iL,m2⟩:=aM.a3;clear eu dL gZ z3 jc n1 n2;cases aZ:a.list with
    |true=>
     rw[aZ]at iL;have fG:jX (({y with iv:=ny oA ns (ic - 1),s:=dx}::ys:List yC).reverse.length=N+1):=jH (by simp[ai.out]);have je:B1<=aB.heap.size:=aR.hB;go_wp2_with (at_builtin;go_loud (refine tJ a4R AU rfl _ _ rfl (B:=B1) (v:=ny (U (Z go 0 V)) (N+1) fU) (L:=({y with iv:=ny oA ns (ic - 1),s:=dx}::ys:List yC).reverse) (y:=⟨ny aF aH aG,sub,ny V 0 0,[],0⟩) rfl (aR.row.below ((jT _ aB).alloc (jK _) _)) rfl (nP.new aB #[ny aF aH aG,ny V 0 0] LT) rfl (by simp[Lb,Value.oneCell']) (by rw[fG.out];omega) nT ?_);intro jG cap aN ah bK gz gB;have iM:=jH (jU ah bK);rw[fG.out];clear ah bK gz gB);have bF:=iM.1;rw[List.length_reverse]at bF;have aL:=vL.push (f:=⟨ny aF aH aG,sub,ny V 0 0,[],aN.heap.size⟩) aR ((jT _ aB).alloc (jK _) _) (a6N bF rfl rfl) iM.2 iK ⟨rfl,rfl,rfl⟩;have hfin:=ZE (x:=y) (xs:=ys) aP.2.2 HYS aZ (iv:=ny oA ns (ic - 1)) (v2:=ny aF aH aG) (B2:=aN.heap.size);have fH:({y with iv:=ny oA ns (ic - 1),s:=dx}::ys:List yC).length=N+1:=by simp[ai.out]
     rw[fH]at aL;have H5:=jH (show Hy w4 _ B1 E _ _ from⟨nS,aL,hfin⟩);clear aL hfin bF fH;go_roundw;case rel=>exact⟨_,H5⟩
     case measure=>
      have h1:=(HME (_,_) _ ⟨_,H5.out,rfl⟩).2;have h3:=QN (ys:=ys) HYS (v2:=ny aF aH aG) (iv:=ny oA ns (ic - 1)) (bv:=ny V 0 0) (l:=[]) (B2:=aN.heap.size);rw[a2h.out]at h3;exact mr h1 h3
    |false=>
     rw[aZ]at iL;have bg:=bT.1;rw[HYS.out]at bg;simp only[wh,j5]at bg;have fI:enc (nM.node a sub)=(if single a.text then a.text else hdr 128 a.text.length++a.text):=by rw[GQ,aZ];simp
     rw[fI]at bg;have iN:a.text.length<=100000:=by
      revert bg;split;.intro h;omega
      .intro h;rw[j5]at h;omega
     have jA:y.l.length<=100000:=nL;have bL:=sF a;have jB:(txt a).size<=100000:=nL;have gD:y.B<=aB.heap.size:=aR.Ij.2.1;have ig:=Kt 128 a.text.length nL;have jf:jX (∃bo jg bc,y.bv=ny bo jg bc):=jH ⟨bo,_,bc,aU.out⟩;have a6O:=jH (λiv bv=>ZC (x:=y) (xs:=ys) aP.2.2 HYS aZ (iv:=iv) (bv:=bv));have jh:=jH iN;clear bg fI;obtain⟨gF,dP,dQ⟩:=Cc aR.row;clear fE;have iO:=dP;have Q:jX (ow aB y.B U8 (ny bo y.l.length bc) y.l):=jH (by have:=aR.Ij.2.2.1;simp only at this;rw[aU.out]at this;exact this);have dR:jX (vL w4 aB B1 (ny (U (Z go 0 V)) (N+1) fU) (⟨ny oA ns (ic - 1),dx,ny bo y.l.length bc,y.l,y.B⟩::ys)):=jH (by have:=aR.out;rw[aU.out]at this;exact this);have O:jX (B1<=go/\nP aB go dP LT):=jH ⟨gF,dQ⟩;have az:=gD;have ak:=iJ;have aJ:aB.frozen? (Z go (N*2+1) V)=false:=dQ.free _;have aA:=jd;by_cases h1:(txt a).size=1
     .have dh:=Qc h1
      have fK:0<(txt a).size:=nL;have ji:(((txt a).size:Int) !=1)=false:=by rw[h1];rfl
      by_cases hb:(txt a)[0].toNat<128
      .have Tc:jX (single a.text=true):=jH (by rw[dh];simpa using hb)
       have e1:decide (128<=(txt a)[0].toNat)=false:=by simpa using hb
       clear dh;go_upto_region 19 with fail;refine rX (S:=λw'=>w'.cell? (Z go (N*2+1) V)=U (ny bo y.l.length bc)/\w'.cell? (Z wr.heap.size 0 V)=U (nz (txt a))) 8 nN ⟨ak,aA⟩ (λC=> ?_);refine nY (i:=0) (oi:= ?b43) (v:= ?va0) ?a9v nN nN nN nN nN ?a9w (kP ⟨?a9x,?a9y⟩) C ?a9z;case a9v=>simp only[jO,jM,jN];rfl
       case a9w=>exact λ_ _ _ h=>h
       case a9x=>rfl
       case a9y=>(intro w A;(try dsimp only at A);go_simp;try rfl)
       simp only[kE,jL,jQ,jR];refine nY (i:=1) (oi:= ?b44) (v:= ?va1) ?a9A nN nN nN nN nN ?a9B (kP ⟨?a9C,?a9D⟩) C ?a9E;case a9A=>simp only[jO,jM,jN];rfl
       case a9B=>exact λ_ _ _ h=>h
       case a9C=>rfl
       case a9D=>(intro w A;(try dsimp only at A);go_simp;try rfl)
       simp only[kE,jL,jQ,jR];refine nY (i:=2) (oi:= ?b45) (v:= ?va2) ?a9F nN nN nN nN nN ?a9G (kP ⟨?a9H,?a9I⟩) C ?a9J;case a9F=>simp only[jO,jM,jN];rfl
       case a9G=>exact λ_ _ _ h=>h
       case a9H=>rfl
       case a9I=>(intro w A;(try dsimp only at A);go_simp;try rfl)
       simp only[kE,jL,jQ,jR];refine nY (i:=3) (oi:= ?b46) (v:= ?va3) ?a9K nN nN nN nN nN ?a9L (kP ⟨?a9M,?a9N⟩) C ?a9O;case a9K=>simp only[jO,jM,jN];rfl
       case a9L=>exact λ_ _ _ h=>h
       case a9M=>rfl
       case a9N=>(intro w A;(try dsimp only at A);go_simp;try rfl)
       simp only[kE,jL,jQ,jR];refine nY (i:=4) (oi:= ?b47) (v:= ?va4) ?a9P nN nN nN nN nN ?a9Q (kP ⟨?a9R,?a9S⟩) C ?a9T;case a9P=>simp only[jO,jM,jN];rfl
       case a9Q=>exact λ_ _ _ h=>h
       case a9R=>rfl
       case a9S=>(intro w A;(try dsimp only at A);go_simp;try rfl)
       simp only[kE,jL,jQ,jR];refine nY (i:=5) (oi:= ?b48) (v:= ?va5) ?a9U nN nN nN nN nN ?a9V (kP ⟨?a9W,?a9X⟩) C ?a9Y;case a9U=>simp only[jO,jM,jN];rfl
       case a9V=>exact λ_ _ _ h=>h
       case a9W=>rfl
       case a9X=>(intro w A;(try dsimp only at A);go_simp;try rfl)
       simp only[kE,jL,jQ,jR];refine nY (i:=6) (oi:= ?b49) (v:= ?va6) ?a9Z nN nN nN nN nN ?a90 (kP ⟨?a92,?a94⟩) C ?a95;case a9Z=>simp only[jO,jM,jN];rfl
       case a90=>exact λ_ _ _ h=>h
       case a92=>rfl
       case a94=>(intro w A;(try dsimp only at A);go_simp;try rfl)
       simp only[kE,jL,jQ,jR];refine uY (i:=7) (o:= ?b5a) nN ?a96 (λK hK=> ?_);case a96=>simp only[jO,jM,jN];rfl
       refine vk Ch (by rfl) _ _ (by rfl) y.B (ny bo y.l.length bc) y.l (txt a) aB.drew (by rfl) Q.drew (by rfl) (by rw[bL];omega) (by exact az) ?_;intro v9 dS af ae;obtain⟨so9,nl9,sc9,bM⟩:∃aX n aY,v9=ny aX n aY:=(by obtain⟨a,b,h⟩:=af.slice;exact⟨a,_,b,h⟩);subst bM;have I:aB.grownBy dS (kM bo y.l.length bc).ownBlock:=⟨ae.os,ae.tape,ae.output,ae.size,ae.block⟩;have aC:=Q.far I;have bq:=cell_of_heap (aC go O.2.lt (.inr ⟨_,O.2⟩)) (N*2+1);have aS:=cell_of_heap (Q.Zy I aM nO) 0;have HN9:=jH (vL.bytes dR ai af I.size ⟨I.os,I.tape,I.output⟩ aC);have bu:=bq.1.trans ak;have dz:=bq.2.trans aJ;have bN:=jH (aS.1.trans aA);clear aC bq aS af ae I;refine hK _ _ ⟨bu,bN.out⟩ (λag=> ?_);clear hK K ag;try simp only[kE,jL,jQ,jR]
       refine sI _ _ _ _ nN (wpAny_of_held (S:=λ_=>True) _ _ _ _ ?_);have J:True:=trivial;refine kU (i:=8) (oi:= ?b5b) (v:= ?va8) ?a97 nN nN nN ?a98 (kP ⟨?a99,?b0a⟩) J ?b0b;case a97=>simp only[jO,jM,jN];rfl
       case a98=>exact λ_ _ _ h=>h
       case a99=>rfl
       case b0a=>(intro w A;(try dsimp only at A);go_simp;try rfl)
       simp only[kE,jL,jQ,jR];refine kU (i:=9) (oi:= ?b5c) (v:= ?va9) ?b0c nN nN nN ?b0d (kP ⟨?b0e,?b0f⟩) J ?b0g;case b0c=>simp only[jO,jM,jN];rfl
       case b0d=>exact λ_ _ _ h=>h
       case b0e=>rfl
       case b0f=>(intro w A;(try dsimp only at A);go_simp;try rfl)
       simp only[kE,jL,jQ,jR];refine lS (rs:=[10]) nN nS ?_;refine kW (o:= ?b35) ?a6R (λK hK=> ?_) lq;case a6R=>simp only[jO,jM,jN];rfl
       go_simp;refine hK _ _ trivial (λQP=> ?_);clear hK K;try simp only[kE,jL,jQ,jR]
       refine wpAnyH_done nN ?_ _;have hfin:=a6O.out (ny oA ns (ic - 1)) (ny so9 nl9 sc9);rw[show(if single a.text then a.text else hdr 128 a.text.length++a.text)=(txt a).data.toList by rw[Tc.out];rfl]at hfin;have H5:=jH (show Hy w4 _ B1 E _ _ from⟨nS,HN9.out,hfin⟩);clear hfin;go_wp2_with fail;go_roundw;case rel=>exact⟨_,H5⟩
       case measure=>
        have h1:=(HME (_,_) _ ⟨_,H5.out,rfl⟩).2;have h3:=Hz (ys:=ys) HYS (iv:=ny oA ns (ic - 1)) (bv:=ny so9 nl9 sc9) (l:=y.l++(txt a).data.toList) (B2:=y.B);rw[a2h.out]at h3;exact mr h1 h3
      .have Tc:jX (single a.text=false):=jH (by rw[dh];simpa using hb)
       have e1:decide (128<=(txt a)[0].toNat)=true:=by simpa using hb
       clear dh;go_upto_region 18 with fail;have ch:=Hm 128 a.text.length y.B (ny bo y.l.length bc) y.l aB.drew (.inl rfl) nL Q.drew nL (by exact az);rw[show((a.text.length:Nat):Int)=(1:Int)by rw[<-bL,h1];rfl]at ch;have bG:=jH ch;clear ch;refine rX (S:=λw'=>w'.cell? (Z go (N*2+1) V)=U (ny bo y.l.length bc)/\w'.cell? (Z wr.heap.size 0 V)=U (nz (txt a))) 10 nN ⟨ak,aA⟩ (λC=> ?_);refine nY (i:=0) (oi:= ?b5d) (v:= ?vb0) ?b0h nN nN nN nN nN ?b0i (kP ⟨?b0j,?b0k⟩) C ?b0l;case b0h=>simp only[jO,jM,jN];rfl
       case b0i=>exact λ_ _ _ h=>h
       case b0j=>rfl
       case b0k=>(intro w A;(try dsimp only at A);go_simp;try rfl)
       simp only[kE,jL,jQ,jR];refine nY (i:=1) (oi:= ?b5e) (v:= ?vb1) ?b0m nN nN nN nN nN ?b0n (kP ⟨?b0o,?b0p⟩) C ?b0q;case b0m=>simp only[jO,jM,jN];rfl
       case b0n=>exact λ_ _ _ h=>h
       case b0o=>rfl
       case b0p=>(intro w A;(try dsimp only at A);go_simp;try rfl)
       simp only[kE,jL,jQ,jR];refine nY (i:=2) (oi:= ?b5f) (v:= ?vb2) ?b0r nN nN nN nN nN ?b0s (kP ⟨?b0t,?b0u⟩) C ?b0v;case b0r=>simp only[jO,jM,jN];rfl
       case b0s=>exact λ_ _ _ h=>h
       case b0t=>rfl
       case b0u=>(intro w A;(try dsimp only at A);go_simp;try rfl)
       simp only[kE,jL,jQ,jR];refine nY (i:=3) (oi:= ?b5g) (v:= ?vb3) ?b0w nN nN nN nN nN ?b0x (kP ⟨?b0y,?b0z⟩) C ?b0A;case b0w=>simp only[jO,jM,jN];rfl
       case b0x=>exact λ_ _ _ h=>h
       case b0y=>rfl
       case b0z=>(intro w A;(try dsimp only at A);go_simp;try rfl)
       simp only[kE,jL,jQ,jR];refine nY (i:=4) (oi:= ?b5h) (v:= ?vb4) ?b0B nN nN nN nN nN ?b0C (kP ⟨?b0D,?b0E⟩) C ?b0F;case b0B=>simp only[jO,jM,jN];rfl
       case b0C=>exact λ_ _ _ h=>h
       case b0D=>rfl
       case b0E=>(intro w A;(try dsimp only at A);go_simp;try rfl)
       simp only[kE,jL,jQ,jR];refine nY (i:=5) (oi:= ?b5i) (v:= ?vb5) ?b0G nN nN nN nN nN ?b0H (kP ⟨?b0I,?b0J⟩) C ?b0K;case b0G=>simp only[jO,jM,jN];rfl
       case b0H=>exact λ_ _ _ h=>h
       case b0I=>rfl
       case b0J=>(intro w A;(try dsimp only at A);go_simp;try rfl)
       simp only[kE,jL,jQ,jR];refine nY (i:=6) (oi:= ?b5j) (v:= ?vb6) ?b0L nN nN nN nN nN ?b0M (kP ⟨?b0N,?b0O⟩) C ?b0P;case b0L=>simp only[jO,jM,jN];rfl
       case b0M=>exact λ_ _ _ h=>h
       case b0N=>rfl
       case b0O=>(intro w A;(try dsimp only at A);go_simp;try rfl)
       simp only[kE,jL,jQ,jR];refine nY (i:=7) (oi:= ?b5k) (v:= ?vb7) ?b0Q nN nN nN nN nN ?b0R (kP ⟨?b0S,?b0T⟩) C ?b0U;case b0Q=>simp only[jO,jM,jN];rfl
       case b0R=>exact λ_ _ _ h=>h
       case b0S=>rfl
       case b0T=>(intro w A;(try dsimp only at A);go_simp;try rfl)
       simp only[kE,jL,jQ,jR];refine nY (i:=8) (oi:= ?b5l) (v:= ?vb8) ?b0V nN nN nN nN nN ?b0W (kP ⟨?b0X,?b0Y⟩) C ?b0Z;case b0V=>simp only[jO,jM,jN];rfl
       case b0W=>exact λ_ _ _ h=>h
       case b0X=>rfl
       case b0Y=>(intro w A;(try dsimp only at A);go_simp;try rfl)
       simp only[kE,jL,jQ,jR];refine uY (i:=9) (o:= ?b5m) nN ?b03 (λK hK=> ?_);case b03=>simp only[jO,jM,jN];rfl
       go_simp;go_at_call 201;refine bG.mono ?_;rintro e aN ⟨gG,rfl,ah,au⟩;obtain⟨av,ax,ay,dU⟩:∃aX n aY,gG=ny aX n aY:=(by obtain⟨a,b,h⟩:=ah.slice;exact⟨a,_,b,h⟩);subst dU;have aa:aB.grownBy aN (kM bo y.l.length bc).ownBlock:=⟨au.os,au.tape,au.output,au.size,au.block⟩;have bz:=Q.far aa;have bY:=cell_of_heap (bz go O.2.lt (.inr ⟨_,O.2⟩)) (N*2+1);have bO:=Q.Zy aa aM nO;have aD:=jH (vL.bytes dR ai ah aa.size ⟨aa.os,aa.tape,aa.output⟩ bz);have bu:=bY.1.trans ak;have dz:=bY.2.trans aJ;have bP:jX (nP aN wr.heap.size #[nz (txt a),nC a.list,ny aF aH aG] IT):=jH (by unfold nP;rw[bO];exact aM);clear bz bY bO ah au aa;refine hK _ _ ⟨bu,bP.cell 0⟩ (λag=> ?_);clear hK K ag bG;try simp only[kE,jL,jQ,jR]
       refine sI _ _ _ _ nN (wpAny_of_held (S:=λ_=>True) _ _ _ _ ?_);have J:True:=trivial;refine kU (i:=10) (oi:= ?b36) (v:= ?b5n) ?a6S nN nN nN ?a6T (kP ⟨?a6U,?a6V⟩) J ?a7R;case a6S=>simp only[jO,jM,jN];rfl
       case a6T=>exact λ_ _ _ h=>h
       case a6U=>rfl
       case a6V=>(intro w A;(try dsimp only at A);go_simp;try rfl)
       simp only[kE,jL,jQ,jR];refine kU (i:=11) (oi:= ?b37) (v:= ?b5o) ?a6W nN nN nN ?a6X (kP ⟨?a6Y,?a6Z⟩) J ?a7S;case a6W=>simp only[jO,jM,jN];rfl
       case a6X=>exact λ_ _ _ h=>h
       case a6Y=>rfl
       case a6Z=>(intro w A;(try dsimp only at A);go_simp;try rfl)
       simp only[kE,jL,jQ,jR];refine lS (rs:=[12]) nN nS ?_;refine kW (o:= ?b38) ?a7a (λK hK=> ?_) lq;case a7a=>simp only[jO,jM,jN];rfl
       go_simp;refine hK _ _ trivial (λQP=> ?_);clear hK K;try simp only[kE,jL,jQ,jR]
       refine wpAnyH_done nN ?_ _;have bQ:jX (nP (aN.setCell (Z go (N*2+1) V) (ny av ax ay)) wr.heap.size #[nz (txt a),nC a.list,ny aF aH aG] IT):=jH (bP.setOther (a:=(Z go (N*2+1) V)) bE _);generalize aN.setCell (Z go (N*2+1) V) (ny av ax ay)=aO at*;have dV:=O;clear Q O az ak aJ aA bu dz;obtain⟨_,_,he,_,dw,_,dW,_⟩:=vg aD ai.out;injection he with Y _ aV
       injection Y with Y
       injection Y with Y
       subst Y aV;have Q:jX (ow aO y.B U8 (ny av ax ay) (y.l++hdr 128 a.text.length)):=jH aD.Ij.2.2.1;have az:y.B<=aO.heap.size:=aD.Ij.2.1;obtain⟨aK,dX,bA⟩:=Cc aD.row;have O:jX (B1<=go/\nP aO go dX LT):=jH ⟨aK,bA⟩;have ak:=dw;have aJ:=dW;have aA:aO.cell? (Z wr.heap.size 0 V)=U (nz (txt a)):=bQ.cell 0;clear dw dW aK bA;go_upto_region 19 with fail;refine rX (S:=λw'=>w'.cell? (Z go (N*2+1) V)=U (ny av ax ay)/\w'.cell? (Z wr.heap.size 0 V)=U (nz (txt a))) 8 nN ⟨ak,aA⟩ (λC=> ?_);refine nY (i:=0) (oi:= ?b5p) (v:= ?vc0) ?b04 nN nN nN nN nN ?b05 (kP ⟨?b06,?b07⟩) C ?b08;case b04=>simp only[jO,jM,jN];rfl
       case b05=>exact λ_ _ _ h=>h
       case b06=>rfl
       case b07=>(intro w A;(try dsimp only at A);go_simp;try rfl)
       simp only[kE,jL,jQ,jR];refine nY (i:=1) (oi:= ?b5q) (v:= ?vc1) ?a6Q nN nN nN nN nN ?b09 (kP ⟨?b1a,?b1b⟩) C ?b1c;case a6Q=>simp only[jO,jM,jN];rfl
       case b09=>exact λ_ _ _ h=>h
       case b1a=>rfl
       case b1b=>(intro w A;(try dsimp only at A);go_simp;try rfl)
       simp only[kE,jL,jQ,jR];refine nY (i:=2) (oi:= ?b5r) (v:= ?vc2) ?b1d nN nN nN nN nN ?b1e (kP ⟨?b1f,?b1g⟩) C ?b1h;case b1d=>simp only[jO,jM,jN];rfl
       case b1e=>exact λ_ _ _ h=>h
       case b1f=>rfl
       case b1g=>(intro w A;(try dsimp only at A);go_simp;try rfl)
       simp only[kE,jL,jQ,jR];refine nY (i:=3) (oi:= ?b5s) (v:= ?vc3) ?b1i nN nN nN nN nN ?b1j (kP ⟨?b1k,?b1l⟩) C ?b1m;case b1i=>simp only[jO,jM,jN];rfl
       case b1j=>exact λ_ _ _ h=>h
       case b1k=>rfl
       case b1l=>(intro w A;(try dsimp only at A);go_simp;try rfl)
       simp only[kE,jL,jQ,jR];refine nY (i:=4) (oi:= ?b5t) (v:= ?vc4) ?b1n nN nN nN nN nN ?b1o (kP ⟨?b1p,?b1q⟩) C ?b1r;case b1n=>simp only[jO,jM,jN];rfl
       case b1o=>exact λ_ _ _ h=>h
       case b1p=>rfl
       case b1q=>(intro w A;(try dsimp only at A);go_simp;try rfl)
       simp only[kE,jL,jQ,jR];refine nY (i:=5) (oi:= ?b5u) (v:= ?vc5) ?b1s nN nN nN nN nN ?b1t (kP ⟨?b1u,?b1v⟩) C ?b1w;case b1s=>simp only[jO,jM,jN];rfl
       case b1t=>exact λ_ _ _ h=>h
       case b1u=>rfl
       case b1v=>(intro w A;(try dsimp only at A);go_simp;try rfl)
       simp only[kE,jL,jQ,jR];refine nY (i:=6) (oi:= ?b5v) (v:= ?vc6) ?b1x nN nN nN nN nN ?b1y (kP ⟨?b1z,?b1A⟩) C ?b1B;case b1x=>simp only[jO,jM,jN];rfl
       case b1y=>exact λ_ _ _ h=>h
       case b1z=>rfl
       case b1A=>(intro w A;(try dsimp only at A);go_simp;try rfl)
       simp only[kE,jL,jQ,jR];refine uY (i:=7) (o:= ?b5w) nN ?b1C (λK hK=> ?_);case b1C=>simp only[jO,jM,jN];rfl
       refine vk Ch (by rfl) _ _ (by rfl) y.B (ny av ax ay) (y.l++hdr 128 a.text.length) (txt a) aO.drew (by rfl) Q.drew (by rfl) (by rw[bL];rw[j5];omega) (by exact az) ?_;intro v9 dS af ae;obtain⟨so9,nl9,sc9,bM⟩:∃aX n aY,v9=ny aX n aY:=(by obtain⟨a,b,h⟩:=af.slice;exact⟨a,_,b,h⟩);subst bM;have I:aO.grownBy dS (kM av ax ay).ownBlock:=⟨ae.os,ae.tape,ae.output,ae.size,ae.block⟩;have aC:=Q.far I;have bq:=cell_of_heap (aC go O.2.lt (.inr ⟨_,O.2⟩)) (N*2+1);have aS:=cell_of_heap (Q.Zy I bQ nO) 0;have HN9:=jH (vL.bytes aD ai af I.size ⟨I.os,I.tape,I.output⟩ aC);have bu:=bq.1.trans ak;have dz:=bq.2.trans aJ;have bN:=jH (aS.1.trans aA);clear aC bq aS af ae I;refine hK _ _ ⟨bu,bN.out⟩ (λag=> ?_);clear hK K ag;try simp only[kE,jL,jQ,jR]
       refine sI _ _ _ _ nN (wpAny_of_held (S:=λ_=>True) _ _ _ _ ?_);have J:True:=trivial;refine kU (i:=8) (oi:= ?b5x) (v:= ?vc8) ?b1D nN nN nN ?b1E (kP ⟨?b1F,?b1G⟩) J ?b1H;case b1D=>simp only[jO,jM,jN];rfl
       case b1E=>exact λ_ _ _ h=>h
       case b1F=>rfl
       case b1G=>(intro w A;(try dsimp only at A);go_simp;try rfl)
       simp only[kE,jL,jQ,jR];refine kU (i:=9) (oi:= ?b5y) (v:= ?vc9) ?b1I nN nN nN ?b1J (kP ⟨?b1K,?b1L⟩) J ?b1M;case b1I=>simp only[jO,jM,jN];rfl
       case b1J=>exact λ_ _ _ h=>h
       case b1K=>rfl
       case b1L=>(intro w A;(try dsimp only at A);go_simp;try rfl)
       simp only[kE,jL,jQ,jR];refine lS (rs:=[10]) nN nS ?_;refine kW (o:= ?b39) ?a7b (λK hK=> ?_) lq;case a7b=>simp only[jO,jM,jN];rfl
       exact ZF
     .have Tc:jX (single a.text=false):=jH (NA (by rw[<-sF];exact h1))
      have ji:(((txt a).size:Int) !=1)=true:=FL;go_upto_region 18 with fail;have ch:=Hm 128 a.text.length y.B (ny bo y.l.length bc) y.l aB.drew (.inl rfl) nL Q.drew nL (by exact az);rw[show((a.text.length:Nat):Int)=((txt a).size:Int)by rw[bL]]at ch;have bG:=jH ch;clear ch;refine rX (S:=λw'=>w'.cell? (Z go (N*2+1) V)=U (ny bo y.l.length bc)/\w'.cell? (Z wr.heap.size 0 V)=U (nz (txt a))) 10 nN ⟨ak,aA⟩ (λC=> ?_);refine nY (i:=0) (oi:= ?b5z) (v:= ?vd0) ?b1N nN nN nN nN nN ?b1O (kP ⟨?b1P,?b1Q⟩) C ?b1R;case b1N=>simp only[jO,jM,jN];rfl
      case b1O=>exact λ_ _ _ h=>h
      case b1P=>rfl
      case b1Q=>(intro w A;(try dsimp only at A);go_simp;try rfl)
      simp only[kE,jL,jQ,jR];refine nY (i:=1) (oi:= ?b5A) (v:= ?vd1) ?b1S nN nN nN nN nN ?b1T (kP ⟨?b1U,?b1V⟩) C ?b1W;case b1S=>simp only[jO,jM,jN];rfl
      case b1T=>exact λ_ _ _ h=>h
      case b1U=>rfl
      case b1V=>(intro w A;(try dsimp only at A);go_simp;try rfl)
      simp only[kE,jL,jQ,jR];refine nY (i:=2) (oi:= ?b5B) (v:= ?vd2) ?b1X nN nN nN nN nN ?b1Y (kP ⟨?hwd2,?b1Z⟩) C ?b2a;case b1X=>simp only[jO,jM,jN];rfl
      case b1Y=>exact λ_ _ _ h=>h
      case hwd2=>rfl
      case b1Z=>(intro w A;(try dsimp only at A);go_simp;try rfl)
      simp only[kE,jL,jQ,jR];refine nY (i:=3) (oi:= ?b5C) (v:= ?vd3) ?b2b nN nN nN nN nN ?b2c (kP ⟨?b2d,?b2e⟩) C ?b2f;case b2b=>simp only[jO,jM,jN];rfl
      case b2c=>exact λ_ _ _ h=>h
      case b2d=>rfl
      case b2e=>(intro w A;(try dsimp only at A);go_simp;try rfl)
      simp only[kE,jL,jQ,jR];refine nY (i:=4) (oi:= ?b5D) (v:= ?vd4) ?b2g nN nN nN nN nN ?b2h (kP ⟨?b2i,?b2j⟩) C ?b2k;case b2g=>simp only[jO,jM,jN];rfl
      case b2h=>exact λ_ _ _ h=>h
      case b2i=>rfl
      case b2j=>(intro w A;(try dsimp only at A);go_simp;try rfl)
      simp only[kE,jL,jQ,jR];refine nY (i:=5) (oi:= ?b5E) (v:= ?vd5) ?b2l nN nN nN nN nN ?b2m (kP ⟨?b2n,?b2o⟩) C ?b2p;case b2l=>simp only[jO,jM,jN];rfl
      case b2m=>exact λ_ _ _ h=>h
      case b2n=>rfl
      case b2o=>(intro w A;(try dsimp only at A);go_simp;try rfl)
      simp only[kE,jL,jQ,jR];refine nY (i:=6) (oi:= ?b5F) (v:= ?vd6) ?b2q nN nN nN nN nN ?b2r (kP ⟨?b2s,?b2t⟩) C ?b2u;case b2q=>simp only[jO,jM,jN];rfl
      case b2r=>exact λ_ _ _ h=>h
      case b2s=>rfl
      case b2t=>(intro w A;(try dsimp only at A);go_simp;try rfl)
      simp only[kE,jL,jQ,jR];refine nY (i:=7) (oi:= ?b5G) (v:= ?vd7) ?b2v nN nN nN nN nN ?b2w (kP ⟨?b2x,?b2y⟩) C ?b2z;case b2v=>simp only[jO,jM,jN];rfl
      case b2w=>exact λ_ _ _ h=>h
      case b2x=>rfl
      case b2y=>(intro w A;(try dsimp only at A);go_simp;try rfl)
      simp only[kE,jL,jQ,jR];refine nY (i:=8) (oi:= ?b5H) (v:= ?vd8) ?b2A nN nN nN nN nN ?b2B (kP ⟨?b2C,?b2D⟩) C ?b2E;case b2A=>simp only[jO,jM,jN];rfl
      case b2B=>exact λ_ _ _ h=>h
      case b2C=>rfl
      case b2D=>(intro w A;(try dsimp only at A);go_simp;try rfl)
      simp only[kE,jL,jQ,jR];refine uY (i:=9) (o:= ?b5I) nN ?b2F (λK hK=> ?_);case b2F=>simp only[jO,jM,jN];rfl
      go_simp;go_at_call 201;refine bG.mono ?_;rintro e aN ⟨gG,rfl,ah,au⟩;obtain⟨av,ax,ay,dU⟩:∃aX n aY,gG=ny aX n aY:=(by obtain⟨a,b,h⟩:=ah.slice;exact⟨a,_,b,h⟩);subst dU;have aa:aB.grownBy aN (kM bo y.l.length bc).ownBlock:=⟨au.os,au.tape,au.output,au.size,au.block⟩;have bz:=Q.far aa;have bY:=cell_of_heap (bz go O.2.lt (.inr ⟨_,O.2⟩)) (N*2+1);have bO:=Q.Zy aa aM nO;have aD:=jH (vL.bytes dR ai ah aa.size ⟨aa.os,aa.tape,aa.output⟩ bz);have bu:=bY.1.trans ak;have dz:=bY.2.trans aJ;have bP:jX (nP aN wr.heap.size #[nz (txt a),nC a.list,ny aF aH aG] IT):=jH (by unfold nP;rw[bO];exact aM);clear bz bY bO ah au aa;refine hK _ _ ⟨bu,bP.cell 0⟩ (λag=> ?_);clear hK K ag bG;try simp only[kE,jL,jQ,jR]
      refine sI _ _ _ _ nN (wpAny_of_held (S:=λ_=>True) _ _ _ _ ?_);have J:True:=trivial;refine kU (i:=10) (oi:= ?b4a) (v:= ?b5J) ?a7c nN nN nN ?a7d (kP ⟨?a7e,?a7f⟩) J ?a7T;case a7c=>simp only[jO,jM,jN];rfl
      case a7d=>exact λ_ _ _ h=>h
      case a7e=>rfl
      case a7f=>(intro w A;(try dsimp only at A);go_simp;try rfl)
      simp only[kE,jL,jQ,jR];refine kU (i:=11) (oi:= ?b4b) (v:= ?b5K) ?a7g nN nN nN ?a7h (kP ⟨?a7i,?a7j⟩) J ?a7U;case a7g=>simp only[jO,jM,jN];rfl
      case a7h=>exact λ_ _ _ h=>h
      case a7i=>rfl
      case a7j=>(intro w A;(try dsimp only at A);go_simp;try rfl)
      simp only[kE,jL,jQ,jR];refine lS (rs:=[12]) nN nS ?_;refine kW (o:= ?b4c) ?a7k (λK hK=> ?_) lq;case a7k=>simp only[jO,jM,jN];rfl
      go_simp;refine hK _ _ trivial (λQP=> ?_);clear hK K;try simp only[kE,jL,jQ,jR]
      refine wpAnyH_done nN ?_ _;have bQ:jX (nP (aN.setCell (Z go (N*2+1) V) (ny av ax ay)) wr.heap.size #[nz (txt a),nC a.list,ny aF aH aG] IT):=jH (bP.setOther (a:=(Z go (N*2+1) V)) bE _);generalize aN.setCell (Z go (N*2+1) V) (ny av ax ay)=aO at*;have dV:=O;clear Q O az ak aJ aA bu dz;obtain⟨_,_,he,_,dw,_,dW,_⟩:=vg aD ai.out;injection he with Y _ aV
      injection Y with Y
      injection Y with Y
      subst Y aV;have Q:jX (ow aO y.B U8 (ny av ax ay) (y.l++hdr 128 a.text.length)):=jH aD.Ij.2.2.1;have az:y.B<=aO.heap.size:=aD.Ij.2.1;obtain⟨aK,dX,bA⟩:=Cc aD.row;have O:jX (B1<=go/\nP aO go dX LT):=jH ⟨aK,bA⟩;have ak:=dw;have aJ:=dW;have aA:aO.cell? (Z wr.heap.size 0 V)=U (nz (txt a)):=bQ.cell 0;clear dw dW aK bA;go_upto_region 19 with fail;refine rX (S:=λw'=>w'.cell? (Z go (N*2+1) V)=U (ny av ax ay)/\w'.cell? (Z wr.heap.size 0 V)=U (nz (txt a))) 8 nN ⟨ak,aA⟩ (λC=> ?_);refine nY (i:=0) (oi:= ?b5L) (v:= ?ve0) ?b2G nN nN nN nN nN ?b2H (kP ⟨?b2I,?b2J⟩) C ?b2K;case b2G=>simp only[jO,jM,jN];rfl
      case b2H=>exact λ_ _ _ h=>h
      case b2I=>rfl
      case b2J=>(intro w A;(try dsimp only at A);go_simp;try rfl)
      simp only[kE,jL,jQ,jR];refine nY (i:=1) (oi:= ?b5M) (v:= ?ve1) ?b2L nN nN nN nN nN ?b2M (kP ⟨?b2N,?b2O⟩) C ?b2P;case b2L=>simp only[jO,jM,jN];rfl
      case b2M=>exact λ_ _ _ h=>h
      case b2N=>rfl
      case b2O=>(intro w A;(try dsimp only at A);go_simp;try rfl)
      simp only[kE,jL,jQ,jR];refine nY (i:=2) (oi:= ?b5N) (v:= ?ve2) ?b2Q nN nN nN nN nN ?b2R (kP ⟨?b2S,?b2T⟩) C ?b2U;case b2Q=>simp only[jO,jM,jN];rfl
      case b2R=>exact λ_ _ _ h=>h
      case b2S=>rfl
      case b2T=>(intro w A;(try dsimp only at A);go_simp;try rfl)
      simp only[kE,jL,jQ,jR];refine nY (i:=3) (oi:= ?b5O) (v:= ?ve3) ?b2V nN nN nN nN nN ?b2W (kP ⟨?b2X,?b2Y⟩) C ?b2Z;case b2V=>simp only[jO,jM,jN];rfl
      case b2W=>exact λ_ _ _ h=>h
      case b2X=>rfl
      case b2Y=>(intro w A;(try dsimp only at A);go_simp;try rfl)
      simp only[kE,jL,jQ,jR];refine nY (i:=4) (oi:= ?b5P) (v:= ?ve4) ?b21 nN nN nN nN nN ?b22 (kP ⟨?b23,?b24⟩) C ?b25;case b21=>simp only[jO,jM,jN];rfl
      case b22=>exact λ_ _ _ h=>h
      case b23=>rfl
      case b24=>(intro w A;(try dsimp only at A);go_simp;try rfl)
      simp only[kE,jL,jQ,jR];refine nY (i:=5) (oi:= ?b5Q) (v:= ?ve5) ?b26 nN nN nN nN nN ?b27 (kP ⟨?b28,?b29⟩) C ?b3a;case b26=>simp only[jO,jM,jN];rfl
      case b27=>exact λ_ _ _ h=>h
      case b28=>rfl
      case b29=>(intro w A;(try dsimp only at A);go_simp;try rfl)
      simp only[kE,jL,jQ,jR];refine nY (i:=6) (oi:= ?b5R) (v:= ?ve6) ?b3b nN nN nN nN nN ?b3c (kP ⟨?b3d,?b3e⟩) C ?b3f;case b3b=>simp only[jO,jM,jN];rfl
      case b3c=>exact λ_ _ _ h=>h
      case b3d=>rfl
      case b3e=>(intro w A;(try dsimp only at A);go_simp;try rfl)
      simp only[kE,jL,jQ,jR];refine uY (i:=7) (o:= ?b5S) nN ?b3g (λK hK=> ?_);case b3g=>simp only[jO,jM,jN];rfl
      refine vk Ch (by rfl) _ _ (by rfl) y.B (ny av ax ay) (y.l++hdr 128 a.text.length) (txt a) aO.drew (by rfl) Q.drew (by rfl) (by rw[bL];rw[j5];omega) (by exact az) ?_;intro v9 dS af ae;obtain⟨so9,nl9,sc9,bM⟩:∃aX n aY,v9=ny aX n aY:=(by obtain⟨a,b,h⟩:=af.slice;exact⟨a,_,b,h⟩);subst bM;have I:aO.grownBy dS (kM av ax ay).ownBlock:=⟨ae.os,ae.tape,ae.output,ae.size,ae.block⟩;have aC:=Q.far I;have bq:=cell_of_heap (aC go O.2.lt (.inr ⟨_,O.2⟩)) (N*2+1);have aS:=cell_of_heap (Q.Zy I bQ nO) 0;have HN9:=jH (vL.bytes aD ai af I.size ⟨I.os,I.tape,I.output⟩ aC);have bu:=bq.1.trans ak;have dz:=bq.2.trans aJ;have bN:=jH (aS.1.trans aA);clear aC bq aS af ae I;refine hK _ _ ⟨bu,bN.out⟩ (λag=> ?_);clear hK K ag;try simp only[kE,jL,jQ,jR]
      refine sI _ _ _ _ nN (wpAny_of_held (S:=λ_=>True) _ _ _ _ ?_);have J:True:=trivial;refine kU (i:=8) (oi:= ?b5T) (v:= ?ve8) ?b3h nN nN nN ?b3i (kP ⟨?b3j,?b3k⟩) J ?b3l;case b3h=>simp only[jO,jM,jN];rfl
      case b3i=>exact λ_ _ _ h=>h
      case b3j=>rfl
      case b3k=>(intro w A;(try dsimp only at A);go_simp;try rfl)
      simp only[kE,jL,jQ,jR];refine kU (i:=9) (oi:= ?b5U) (v:= ?ve9) ?b3m nN nN nN ?b3n (kP ⟨?b3o,?b3p⟩) J ?b3q;case b3m=>simp only[jO,jM,jN];rfl
      case b3n=>exact λ_ _ _ h=>h
      case b3o=>rfl
      case b3p=>(intro w A;(try dsimp only at A);go_simp;try rfl)
      simp only[kE,jL,jQ,jR];refine lS (rs:=[10]) nN nS ?_;refine kW (o:= ?b4d) ?a7l (λK hK=> ?_) lq;case a7l=>simp only[jO,jM,jN];rfl
      exact ZF
theorem Vn(x:nM IL):∀(w:jJ)(v:jP)(n:Nat),pJ w v x.sub->0<n->n<=10000->
  jV jI 44 #[nD #[nz (txt x.lab),nC x.lab.list,v],nk nI n] w λe w'=>e=nG (nk nI ((n - x.count:Nat):Int))/\jS w.heap.size w w':=by
 induction x using nM.ind with
 |h a s aj=>
  intro w v n J aL hn;simp only[nM.qx,nM.oZ,nM.count]at J⊢;obtain⟨oa,cap,rfl,Y,O⟩:=nW.slice J;obtain⟨g,hg⟩:=nV w.heap.size;have N:=jH (rT (T:=txt a) (l:=a.list) (t:=IT) J);have ak:s.length<=9223372036854775807:=by unfold j3 at O;omega
  obtain⟨M,aa⟩:=nV s.length;have ae:=jH aa;have aH:=jH aj;obtain⟨C,af⟩:=nV (nM.nZ s);have au:=jH af;rw[hg]at N⊢;rw[aa]at N ak⊢;rw[af];clear J Y O aj aa af;go_in;go_upto_region 1 with fail;generalize w.alloc (nH #[nz (txt a),nC a.list,ny oa M cap] IT)=w1 at*;obtain⟨Q,ht1,hsz,c0,c1,c2,_⟩:=N.out _ rfl;have av:=jH (jU Q ht1);clear N Q ht1 c0 c1;go_wp2_with fail;go_loopw [1,5] (λaI iv aJ=>∃k l:Nat,iv=nk nI k/\k<=M/\aI=nk nI l/\jX (l=n - 1 - nM.nZ (s.take k))/\l<=10000/\jX (jS (g+1) w1 aJ)) (λ_ iv _=>M -(kT iv).toNat);case atStart=>exact⟨0,n - 1,rfl,nL,by go_num,by simp[jX,nM.nZ],nL,jH (jT _ _)⟩
  case round=>
   obtain⟨k,l,rfl,hk,rfl,ax,hl,A⟩:=hrel;have aM:wr.cell? (Z g 2 V)=U (ny oa M cap):=(A.cell (p:=(Z g 2 V)) (lK g)).trans c2;have ay:jX (jS g w wr):=jH (av.1.trans (A.mono nL));have E:jX (k=M\/l=0->l=n -(1+C)):=jH λh=>by
    have h1:=ax.out;have h2:=nM.uG s k;rw[au.out]at h2;rcases h with h|h
    .have az:s.take k=s:=by rw[h,<-ae.out,l9]
     rw[az,au.out]at h1;omega
    .omega
   by_cases c:k<M
   .by_cases cl:0<l
    .obtain⟨aN,y,ag⟩:∃h:k<s.length,∃y,s[k]? =U y:=⟨by rw[ae.out];exact c,_,jW (by rw[ae.out];exact c)⟩
     obtain⟨b,off,u,rfl,hlt,_,aO,aP,y2,aA,aB⟩:=nW.at_ (Shape.nX.below av.2 (hsz▸A.out)) ag;have aK:=jH (aH y (kK ag) wr u l aA cl hl);have aC:jX (l - y.count=n - 1 - nM.nZ (s.take (k+1))):=by
      unfold jX;rw[nM.vI ag];have:=ax.out;omega
     have aD:jX (∀w2,jS wr.heap.size wr w2->jS (g+1) w1 w2):=jH λw2 I=>A.trans (I.mono (by have:=A.size;omega))
     clear aA aB;go_wp2_with fail;refine(aK).mono ?_;rintro e w2 ⟨rfl,I⟩;go_wp2_with fail;go_roundw;case rel=>exact⟨k+1,l - y.count,by go_num,nL,rfl,aC,nL,jH (aD _ I)⟩
     case measure=>simp[kT];omega
    .obtain rfl:l=0:=nL
     have e:=E.out (.inr rfl);have ah:=jH e;clear e;go_wp2_with fail;go_returns;rw[<-ah.out];exact⟨rfl,ay.out⟩
   .obtain rfl:k=M:=nL
    have ah:=jH (E (.inl rfl));obtain⟨ai,aF⟩:∃ai:Int,(if(l:Int)<0 then(0:Int)else l)=ai:=⟨_,rfl⟩;have aG:jX (ai=l):=by unfold jX;rw[<-aF,if_neg nL]
    go_wp2_with fail;go_returns;rw[<-ah.out];exact⟨by first|rfl|(simp;omega)|(rw[aG.out]),ay.out⟩
theorem Om(s t:List (nM IL)):zk (s++t)=zk s+zk t:=by
 induction s with
 |nil=>simp[zk]
 |cons x xs A=>simp[zk,A,kR]
theorem Vo{s:List (nM IL)}{i:Nat}{x:nM IL}(h:s[i]? =U x):zk (s.take (i+1))=zk (s.take i)+tsz x:=by
 rw[mY,h];simp[Om,zk]
theorem Oo(a:IL)(s:List (nM IL)):tsz (.node a s)=a.text.length+zk s:=rfl
theorem Vp(x:nM IL):∀(w:jJ)(v:jP),pJ w v x.sub->x.lab.text.length<=j3->
  jV jI 45 #[nD #[nz (txt x.lab),nC x.lab.list,v]] w λe w'=>e=nG (nk nI ((min (tsz x) 10000:Nat):Int))/\jS w.heap.size w w':=by
 induction x using nM.ind with
 |h a s av=>
  intro w v J Y;simp only[nM.qx,nM.oZ,Oo]at J Y⊢;obtain⟨oa,cap,rfl,ai,aa⟩:=nW.slice J;obtain⟨g,hg⟩:=nV w.heap.size;have N:=jH (rT (T:=txt a) (l:=a.list) (t:=IT) J);have ax:s.length<=9223372036854775807:=by unfold j3 at aa;omega
  obtain⟨M,aj⟩:=nV s.length;have ak:=jH aj;have aK:=jH av;have C:=sF a;obtain⟨O,ae⟩:=nV (min a.text.length 10000);have ay:(if(10000:Int)<((txt a).size:Int)then(10000:Int)else((txt a).size:Int))=(O:Int):=by rw[C];split<;>omega
  have az:min ((txt a).size:Int) 10000=(O:Int):=by rw[C];omega
  have aA:=jH ae;have hm2:O<=10000:=nL;rw[hg]at N⊢;rw[aj]at N ax⊢;clear J ai aa av aj C ae Y;go_in;go_upto_region 1 with fail;generalize w.alloc (nH #[nz (txt a),nC a.list,ny oa M cap] IT)=w1 at*;obtain⟨af,ht1,hsz,c0,c1,c2,_⟩:=N.out _ rfl;have aB:=jH (jU af ht1);clear N af ht1 c1;go_wp2_with fail;clear c0 ay az;go_loopw [3,4] (λaL iv aM=>∃k l:Nat,iv=nk nI k/\k<=M/\aL=nk nI l/\jX (l=min (a.text.length+zk (s.take k)) 10000)/\l<=10000/\jX (jS (g+1) w1 aM)) (λ_ iv _=>M -(kT iv).toNat);case atStart=>exact⟨0,O,rfl,nL,rfl,jH (by simp[zk,aA.out]),hm2,jH (jT _ _)⟩
  case round=>
   obtain⟨k,l,rfl,hk,rfl,aC,hl,A⟩:=hrel;have aO:wr.cell? (Z g 2 V)=U (ny oa M cap):=(A.cell (p:=(Z g 2 V)) (lK g)).trans c2;have HF:jX (jS g w wr):=jH (aB.1.trans (A.mono nL));by_cases c:k<M
   .obtain⟨aP,y,au⟩:∃h:k<s.length,∃y,s[k]? =U y:=⟨by rw[ak.out];exact c,_,jW (by rw[ak.out];exact c)⟩
    obtain⟨b,off,u,rfl,hlt,_,aS,aT,y2,aD,ag⟩:=nW.at_ (Shape.nX.below aB.2 (hsz▸A.out)) au;have Q:=aK.out y (kK au) wr u aD ag;obtain⟨E,ah⟩:=nV (min (tsz y) 10000);rw[ah]at Q;obtain⟨l2,aF⟩:=nV (min (l+E) 10000);have aQ:(if(10000:Int)<(l:Int)+(E:Int)then(10000:Int)else(l:Int)+(E:Int))=(l2:Int):=by split<;>omega
    have aR:min ((l:Int)+(E:Int)) 10000=(l2:Int):=nL;have aN:E<=10000:=nL;have aG:jX (l2=min (a.text.length+zk (s.take (k+1))) 10000):=by
     unfold jX;rw[Vo au];have:=aC.out;omega
    have aH:l2<=10000:=nL;have Q:=jH Q;have aI:jX (∀w2,jS wr.heap.size wr w2->jS (g+1) w1 w2):=jH λw2 I=>A.trans (I.mono (by have:=A.size;omega))
    clear aD ag ah aF;go_wp2_with fail;refine(Q).mono ?_;rintro e w2 ⟨rfl,I⟩;go_wp2_with fail;go_roundw;case rel=>exact⟨k+1,l2,by go_num,nL,rfl,aG,aH,jH (aI _ I)⟩
    case measure=>simp[kT];omega
   .obtain rfl:k=M:=nL
    have HE:jX (l=min (a.text.length+zk s) 10000):=by
     unfold jX;have h1:=aC.out;have aJ:s.take k=s:=by rw[<-ak.out,l9]
     rw[aJ]at h1;exact h1
    exact Ff
def vT(x:nM IL):Bool:=decide (1200<=x.count)||decide (6000<tsz x)
theorem QR(x:nM IL)(w:jJ)(v:jP)(E:pJ w v x.sub)(ae:x.lab.text.length<=j3):
  jV jI 18 #[nD #[nz (txt x.lab),nC x.lab.list,v]] w λe w'=>e=nG (nC (vT x))/\jS w.heap.size w w':=by
 have N:=jH (rT (T:=txt x.lab) (l:=x.lab.list) (t:=IT) E);have aG:=jH E;obtain⟨oa,cap,rfl,O,af⟩:=nW.slice E;obtain⟨g,hg⟩:=nV w.heap.size;have Q:=jH (λ(W:jJ) (h:pJ W (ny oa x.sub.length cap) x.sub)=>Vn x W _ 1200 h nO nO);have ag:=jH (λ(W:jJ) (h:pJ W (ny oa x.sub.length cap) x.sub)=>Vp x W _ h ae);obtain⟨R,ah⟩:=nV (1200 - x.count);obtain⟨Y,ai⟩:=nV (min (tsz x) 10000);rw[ah]at Q;rw[ai]at ag;have aj:jX (vT x=(decide (R=0)||decide (6000<Y))):=jH (by
  unfold vT;congr 1<;>(rw[decide_eq_decide];omega))
 rw[hg]at N⊢;generalize vT x=G at*;clear E O af ah ai ae;generalize x.sub.length=M at*;go_in;go_upto_region 1 with fail;generalize w.alloc (nH #[nz (txt x.lab),nC x.lab.list,ny oa M cap] IT)=w1 at*;obtain⟨I,ht1,hsz,c0,c1,c2,_⟩:=N.out _ rfl;have aa:=jH ht1;have ak:=jH I;have au:=jH hsz;have hlt:g<w1.heap.size:=nL;clear N ht1 I hsz;by_cases C:R=0
 .have aA:((R:Int)==0)=true:=by simp[C]
  have HE:jX (G=true):=jH (by rw[aj.out];simp[C]);clear C;go_wp2_with fail;refine(Q _ aa).mono ?_;rintro e w2 ⟨rfl,A⟩;have HB2:=jH (ak.trans (A.mono (by have:=au.out;omega)));clear A;exact DZ
 .have aA:((R:Int)==0)=false:=wG
  have HE:jX (G=decide (6000<Y)):=jH (by rw[aj.out];simp[C]);clear C;go_wp2_with fail;refine(Q _ aa).mono ?_;rintro e w2 ⟨rfl,A⟩;have HB2:=jH (ak.trans (A.mono (by have:=au.out;omega)));have aC:=(A.cell (p:=(Z g 0 V)) hlt).trans c0;have aD:=(A.cell (p:=(Z g 1 V)) hlt).trans c1;have aF:=(A.cell (p:=(Z g 2 V)) hlt).trans c2;have av:=jH (Shape.nX.below aa A);have ax:g<=w2.heap.size:=by have:=A.size;omega
  clear A;have aH:(Y<6001\/6000<Y):=nL;by_cases aB:6000<Y
  all_goals
   go_wp2_with fail;refine(ag _ av).mono ?_;rintro e w3 ⟨rfl,J⟩;have ay:=jH (HB2.trans (J.mono ax));clear J;go_wp2_with fail;go_returns;refine⟨?_,ay.out⟩;rw[HE.out];have az:decide ((6000:Int)<(Y:Int))=decide (6000<Y):=by rw[decide_eq_decide];omega
   first|rfl|(rw[<-az];done)|(simp[aB];omega)
theorem QS(x:nM IL)(w:jJ)(v:jP)(E:pJ w v x.sub)(N:rZ x=false):
  jV jI 161 #[nD #[nz (txt x.lab),nC x.lab.list,v]] w λe w'=>e=nG (nE #[nz ⟨#[]⟩,nk nI 1])/\jS w.heap.size w w':=by
 have I:=jH (rT (T:=txt x.lab) (l:=x.lab.list) (t:=IT) E);obtain⟨oa,cap,rfl,J,O⟩:=nW.slice E;obtain⟨g,hg⟩:=nV w.heap.size;have Q:=jH (λ(W:jJ) (h:pJ W (ny oa x.sub.length cap) x.sub)=>Gl x W _ h);rw[N]at Q;rw[hg]at I⊢;clear E J O N;generalize x.sub.length=M at*;go_in;go_upto_region 1 with fail;generalize w.alloc (nH #[nz (txt x.lab),nC x.lab.list,ny oa M cap] IT)=w1 at*;obtain⟨A,ht1,hsz,c0,c1,c2,_⟩:=I.out _ rfl;have aa:=jH ht1;have ae:=jH A;have af:w1.heap.size=g+1:=hsz;clear I ht1 A hsz;go_wp2_with fail;refine(Q _ aa).mono ?_;rintro e w2 ⟨rfl,C⟩;have Y:=jH (ae.trans (C.mono (show g<=w1.heap.size by omega)));clear C;go_wp2_with fail;go_returns;exact⟨rfl,Y.out⟩
def a4T(x:nM IL):jP:=if rZ x then nE #[nz ⟨(enc x).toArray⟩,nk nI 0]else nE #[nz ⟨#[]⟩,nk nI 1]
theorem a2i(x:nM IL)(w:jJ)(v:jP)(C:pJ w v x.sub)(E:x.lab.text.length<=j3)(I:rZ x=true->(enc x).length<=100000):
  jV jI 161 #[nD #[nz (txt x.lab),nC x.lab.list,v]] w λe w'=>e=nG (a4T x)/\jS w.heap.size w w':=by
 unfold a4T;cases A:rZ x with
 |true=>rw[if_pos rfl];exact QQ x w v C E A (I A)
 |false=>rw[if_neg nS];exact QS x w v C A
end
end Go.Proofs.YtamfcjmhnndbdaaGreatDoor


