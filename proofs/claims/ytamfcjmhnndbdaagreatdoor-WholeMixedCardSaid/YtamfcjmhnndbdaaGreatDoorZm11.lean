/- Part 11 of the proof. -/
import Derived.Test.YtamfcjmhnndbdaaGreatDoorZm00
import Derived.Test.YtamfcjmhnndbdaaGreatDoorZm06
import Derived.Test.YtamfcjmhnndbdaaGreatDoorZm07
import Derived.Test.YtamfcjmhnndbdaaGreatDoorZm09
import Derived.Test.YtamfcjmhnndbdaaGreatDoorZm10
open Go.Value renaming agg→nD,bool→nC,int→nk,pointer→nA,slice→ny,string→nz,tuple→nE,ownBlock→kJ,slice→kM
open Go.Obj renaming cells→nH
open Go.IntKind renaming i64→nI,u64→nJ
open Go.Ending renaming returned→nG,returned→lJ
open Go.Lib renaming hid→jH
open Go.Proofs.Tryz renaming prog→jI
open Go renaming World→jJ,Value→jP,Calls→jV,bodyPost_ret→jZ,maxLen→j3,TypeId→ko,undef→kI,results→kQ,Addr→lH,Oper→lY,Program→ma
open Nat renaming le_refl→jK,le_trans→jY,lt_of_lt_of_le→kG,zero_le→kH,lt_succ_self→lK,le_of_eq→mR
open List renaming setIfInBounds_toArray→jL,getElem?_cons_succ→jM,getElem?_cons_zero→jN,getElem?_toArray→jO,set_cons_zero→jQ,set_cons_succ→jR,getElem?_eq_getElem→jW,length_append→j5,take_succ_cons→ky,length_cons→kF,mem_of_getElem?→kK,take_zero→kL,replicate→lh,getElem?_eq_some_iff→lF,map_cons→mQ
open Go.RowKit renaming Below→jS,Hid→jX,intOf→kT
open Go.RowKit.Below renaming refl→jT,heap_setCell→j6
open Bool renaming and_eq_true→j4,false_eq_true→lV
open Go.World renaming setCell→kz,cell?→mI
open ByteArray renaming size_extract→kC
open Go.Act renaming put→kE
open Go.Code renaming region→ll
open Array renaming getElem?_modify→lu
open Go.Instr renaming makeFunc→mJ
open Option renaming none→V,some→U
open Go.Addr renaming mk→Z
namespace Go.Proofs.YtamfcjmhnndbdaaGreatDoor
set_option linter.unusedVariables false
set_option linter.unusedSimpArgs false
set_option maxRecDepth 100000
set_option maxHeartbeats 8000000
variable {p:Prop}{x:Fr}
section
open Go.RowKit
theorem UJ{s:List UInt8}{K M er:Nat}(h:BP s (decide (K<=0)) (decide (M<=0))=.error er):wO K s M=.error er:=by
 refine R5 ?_;rw[<-h];congr 1<;>(rw[decide_eq_decide];omega)
theorem Ca{s:List UInt8}{K M:Nat}{q:Bool×Nat×Nat}(h:BP s (decide (K<=0)) (decide (M<=0))=.ok q):s≠[]/\0<K/\0<M/\hd s=.ok q/\q.2.1+q.2.2<=s.length/\0<q.2.1+q.2.2:=by
 have e1:decide (K<=0)=decide (K=0):=by rw[decide_eq_decide];omega
 have e2:decide (M<=0)=decide (M=0):=by rw[decide_eq_decide];omega
 rw[e1,e2]at h;obtain⟨h1,h2,C,A⟩:=XQ h;obtain⟨E,I,_⟩:=Ku A;exact⟨h1,h2,C,A,E,I⟩
theorem vR.Qb{s:List UInt8}{K M B bo bw:Nat}{w0 w w':jJ}{vr v:jP}{z n:Nat}{A:Nat->Prop}(h:BP s (decide (K<=0)) (decide (M<=0))=.ok (false,z,n))(hw0:jS B w0 w)(hs:rE w' B bo bw vr [])(hb:nP w' bw #[nz (txt ⟨(s.drop z).take n,false⟩),nC false,v] IT)(C:nW w' A v [])(E:∀c,A c->¬OE B bo bw vr c)(I:jS B w w'):
  vR s K M (wO K s M) B bo bw w0 w' (z+n) 1 vr []:=by
 obtain⟨h1,h2,J,N,O,Q⟩:=Ca h;refine⟨hs,hw0.trans I,J,nS,nS,O,?_⟩;obtain⟨k,rfl⟩:∃k,K=k+1:=⟨K - 1,nL⟩;obtain⟨m,rfl⟩:∃m,M=m+1:=⟨M - 1,nL⟩;exact⟨nM.node ⟨(s.drop z).take n,false⟩ [],v,A,Np h1 N,hb,C,E⟩
theorem vR.BZ{s:List UInt8}{K M B bo bw:Nat}{w0 w w':jJ}{vr v':jP}{z n:Nat}(h:BP s (decide (K<=0)) (decide (M<=0))=.ok (true,z,n))(hw0:jS B w0 w)(hs:rE w' B bo bw vr [⟨v',[],z+n⟩])(hb:nP w' bw qX IT)(C:jS B w w'):vR s K M (wO K s M) B bo bw w0 w' z 1 vr [⟨v',[],z+n⟩]:=by
 obtain⟨h1,h2,E,I,A,J⟩:=Ca h;refine⟨hs,hw0.trans C,E,nT,nS,⟨by show z<=z+n;omega,A⟩,hb,?_⟩;obtain⟨k,rfl⟩:∃k,K=k+1:=⟨K - 1,nL⟩;obtain⟨m,rfl⟩:∃m,M=m+1:=⟨M - 1,nL⟩;exact Go.Proofs.YtamfcjmhnndbdaaGreatDoor.BZ I h1 A
def Nu(R:RdR)(w:jJ)(e:Ending)(w':jJ):Prop:=match R with
 | .error er=>e=nG (nE #[nD qX,nk nI 0,nk nI (er:Nat)])/\jS w.heap.size w w'
 | .ok y=>∃v,e=nG (nE #[nD #[nz (txt y.1.lab),nC y.1.lab.list,v],nk nI (y.2.1:Nat),nk nI 0])/\nW w' (λc=>w.heap.size<=c) v y.1.sub/\jS w.heap.size w w'
def Opn(p:Nat):List Fr->Prop
 |[]=>True
 |x::_=>p<x.e
def XU:jP->Nat
 | nC true=>1
 |_=>0
def Eb(w:jJ)(b:Nat):Nat:=match w.cell? (Z b 0 V)with
 |some (ny _ n _)=>n
 |_=>0
theorem R8{l:List UInt8}{er:Nat}(h:hd l=.error er):er=2\/er=3:=by
 have h2:∀(L:Bool)(z n:Nat),hd2 l L z n=.error er->er=2\/er=3:=by
  intro L z n h;unfold hd2 at h;split at h;.cases h;exact .inl rfl
  split at h;.cases h;exact .inr rfl
  .cases h
 cases l with
 |nil=>simp only[hd]at h;cases h;exact .inl rfl
 |cons b r=>
  simp only[hd]at h;generalize (if 192<=b.toNat then(192:Nat)else 128)=by' at h;split at h;.cases h
  split at h;.exact h2 _ _ _ h
  split at h;.cases h;exact .inl rfl
  split at h;.cases h;exact .inr rfl
  .exact h2 _ _ _ h
theorem Nv{l:List UInt8}{a b:Bool}{er:Nat}(h:BP l a b=.error er):2<=er/\er<=6:=by
 unfold BP at h;split at h;.cases h;decide
 split at h;.cases h;decide
 split at h;.cases h;decide
 .have:=R8 h;omega
theorem Nw{l:List UInt8}{z n:Nat}(h:hd l=.ok (true,z,n)):0<z:=by
 obtain⟨_,_,_,C⟩:=Ku h;rcases C with⟨A,_⟩|⟨_,_,A⟩
 .cases A
 .exact A
theorem KN{s:ByteArray}{l:List UInt8}(h:s.data.toList=l)(p e:Nat):(s.extract p e).data.toList=zw l p e:=by
 subst h;simp only[ByteArray.data_extract,Array.toList_extract,List.extract,zw]
theorem rE.fut{w w':jJ}{B bo bw:Nat}{vr:jP}{st:List Fr}(h:rE w B bo bw vr st)(hb:jS w.heap.size w w'):rE w' B bo bw vr st:=
 ⟨Below.blk hb h.ho h.ho.lt,h.row.below hb,h.nbo,h.nbw,h.Ij.below hb,h.Ik,h.hbw,h.ne,kG h.lt hb.size⟩
theorem vR.fut{s:List UInt8}{K M:Nat}{R:RdR}{B bo bw:Nat}{w0 w w':jJ}{p c:Nat}{vr:jP}{st:List Fr}(h:vR s K M R B bo bw w0 w p c vr st)(hb:jS w.heap.size w w'):vR s K M R B bo bw w0 w' p c vr st:=by
 have hlt:=h.Bq.lt;refine⟨h.Bq.fut hb,h.below.trans (hb.mono (by have:=h.Bq.hbw;omega)),h.hc,h.len,h.Ls,h.ends,?_⟩;cases st with
 |nil=>
  obtain⟨x,v,A,h1,h2,C,E⟩:=h.res;exact⟨x,v,A,h1,Below.blk hb h2 hlt,Shape.nX.below C hb,E⟩
 |cons x xs=>exact⟨Below.blk hb h.res.1 hlt,h.res.2⟩
theorem tJ{A:Type}{f:A->List jP}{k:Nat}{P:ma}{st t:ko}(T:wT P st t k)(hk:∀y,(f y).length=k){ops:Array lY}{rest:List lY}{o:lY}{a:Act}{Q:Exit->Act->jJ->Prop}(E:o.guard=V)(s x:Operand)(ho:o.op=.call {callee:=.builtin .append,args:=#[s,x],argTypes:=#[st,st]}){w:jJ}{B b c:Nat}{v:jP}{L:List A}{y:A}{cs:Array jP}{J:ko}(hs:a.eval s=v)(C:pQ f k w B t v L)(N:a.eval x=ny (U (Z b 0 V)) 1 c)(hb:nP w b cs J)(I:cs.toList=f y)(h1:∀u∈f y,u.oneCell'=true)(hlen:L.length<=1000000)(hB:B<=w.heap.size)(h:∀g cap w',pQ f k w' B t (ny (U (Z g 0 V)) (L.length+1) cap) (L++[y])->w.grownBy w' v.ownBlock->(v.ownBlock=U g\/g=w.heap.size)->g<w'.heap.size->wpList P ops Q rest (a.put o.dst (ny (U (Z g 0 V)) (L.length+1) cap)) w'):
  wpList P ops Q (o::rest) a w:=by
 refine wpList_plain E λK O=> ?_
 obtain⟨g,cap,w',Y,h2,aa,ae,af,_⟩:=Db (ty:=o.type) T hk C hb I h1 hlen hB;unfold Oper.wp execOp;simp only[ho,resolve,invoke,builtin,Sem.run_bind,Sem.run_pure,Result.andThen_ok,List.map_toArray,mQ,List.map_nil,hs,N];rw[Y];exact O _ _ (h g cap w' h2 aa ae af)
theorem Ny{w w1 w2:jJ}{B bo bw:Nat}{vr:jP}{st:List Fr}(h:rE w B bo bw vr st)(E:jS w.heap.size w w1)(hg:w1.grownBy w2 vr.ownBlock):w2.cell? (Z bo 0 V)=U vr/\w2.frozen? (Z bo 0 V)=false:=by
 have A:=Below.blk E h.ho h.ho.lt;have C:nP w2 bo #[vr] OT:=by
  unfold nP;rw[hg.block bo A.lt λe=>h.nbo e.symm];exact A
 exact⟨C.cell 0,C.free 0⟩
theorem R9{g:Nat}{wa w:jJ}(h:nP wa g qX IT)(hb:jS (g+1) wa w):(w.cell? (Z g 0 V)=U (nz ⟨#[]⟩)/\w.cell? (Z g 1 V)=U (nC false)/\w.cell? (Z g 2 V)=U (ny V 0 0))/\
  (w.frozen? (Z g 0 V)=false/\w.frozen? (Z g 1 V)=false/\w.frozen? (Z g 2 V)=false)/\nP w g qX IT:=by
 have:=Below.blk hb h (lK g);exact⟨⟨this.cell 0,this.cell 1,this.cell 2⟩,⟨this.free 0,this.free 1,this.free 2⟩,this⟩
theorem Jr{g:Nat}{w0 wa w:jJ}{a b c:jP}(h0:jS g w0 wa)(C:g<wa.heap.size)(hb:jS (g+1) wa w)(A:nP w g qX IT):nP (wo w g 0 a b c) g #[a,b,c] IT/\jS g w0 (wo w g 0 a b c):=by
 refine⟨?_,?_⟩
 .have:=((A.set 0 a).set 1 b).set 2 c
  exact this
 .have h1:jS g w0 w:=h0.trans (hb.mono nL)
  exact pE.below (Nl w g 0 a b c) h1 (jK _) (by have:=hb.size;omega)
structure a6o(l:List UInt8)(g:Nat)(w wa W:jJ):Prop where
 Bq:rE W (g+1) (g+1) (g+2) (ny V 0 0) []
 whole:nP W (g+2) qX IT
 res:nP wa g qX IT
 ba:jS g w wa
 bw:jS (g+1) wa W
 o0:W.cell? (Z (g+1) 0 V)=U (ny V 0 0)
theorem a6p{l:List UInt8}{g:Nat}{w wa A W:jJ}(hg:w.heap.size=g)(E:w.alloc (nH #[nz ⟨#[]⟩,nC false,ny V 0 0] IT)=wa)(hb:wa.alloc (nH #[ny V 0 0] OT)=A)(hc:A.alloc (nH #[nz ⟨#[]⟩,nC false,ny V 0 0] IT)=W):a6o l g w wa W:=by
 have I:wa.heap.size=g+1:=by rw[<-E];simp;omega
 have J:A.heap.size=g+2:=by rw[<-hb];simp;omega
 have aa:W.heap.size=g+3:=by rw[<-hc];simp;omega
 have b1:jS g w wa:=by rw[<-E,<-hg];exact(jT _ w).alloc (jK _) _
 have N:jS (g+1) wa A:=by rw[<-hb,<-I];exact(jT _ wa).alloc (jK _) _
 have b3:jS (g+2) A W:=by rw[<-hc,<-J];exact(jT _ A).alloc (jK _) _
 have O:nP wa g qX IT:=by have:=nP.new w #[nz ⟨#[]⟩,nC false,ny V 0 0] IT;rw[E,hg]at this;exact this
 have Q:nP A (g+1) #[ny V 0 0] OT:=by have:=nP.new wa #[ny V 0 0] OT;rw[hb,I]at this;exact this
 have Y:nP W (g+2) qX IT:=by have:=nP.new A #[nz ⟨#[]⟩,nC false,ny V 0 0] IT;rw[hc,J]at this;exact this
 have C:nP W (g+1) #[ny V 0 0] OT:=Below.blk b3 Q nL;exact⟨⟨C,pQ.nil _ _ _,by simp[kJ],by simp[kJ],trivial,nL,nL,nL,nL⟩,Y,O,b1,N.trans (b3.mono nL),C.cell 0⟩
theorem KO{w:jJ}{B bo bw:Nat}{vr:jP}{st:List Fr}(h:rE w B bo bw vr st):Eb w bo=st.length:=by
 obtain⟨oa,cap,A⟩:=h.row.slice;have:=h.ho.cell 0;rw[A]at this;unfold Eb;rw[this];simp
section
variable {l:List UInt8}{K M:Nat}{R:RdR}{g:Nat}{wa w:jJ}{p c:Nat}{vr:jP}
theorem yj{xs:List Fr}{N:Nat}(h:vR l K M R (g+1) (g+1) (g+2) wa w p c vr (x::xs))(I:xs.length=N):∃go C,vr=ny (U (Z go 0 V)) (N+1) C/\
  w.cell? (Z go (N*2) V)=U x.v/\w.cell? (Z go (N*2+1) V)=U (nk nI (x.e:Nat))/\w.cell? (Z (g+1) 0 V)=U (ny (U (Z go 0 V)) (N+1) C)/\w.frozen? (Z (g+1) 0 V)=false/\N+1<=C/\N+1<=K:=by
 obtain⟨oa,C,E⟩:=h.Bq.row.slice;have O:(x::xs).reverse.length=N+1:=by simp[I]
 rw[O]at E;subst E;obtain⟨go,rfl,_,_,_,J,A,_⟩:=pQ.at_ h.Bq.row AB (i:=N) (y:=x) (by simp[<-I]);have:=h.len;rw[kF,I]at this;exact⟨go,C,rfl,A 0 nO,A 1 nO,h.Bq.ho.cell 0,h.Bq.ho.free 0,J,this⟩
theorem a1k{xs:List Fr}{A:Nat}(h:vR l K M R (g+1) (g+1) (g+2) wa w p c vr (x::xs))(E:x.L.length=A):∃ov cv,x.v=ny ov A cv/\A<=cv/\A<=c:=by
 obtain⟨Q,_,h1,_⟩:=h.Bq.Ij;obtain⟨ov,cv,h2,C,_⟩:=nW.slice h1.subs;rw[List.length_map,E]at h2 C;have:=h.Ls;simp at this;exact⟨ov,cv,h2,C,nL⟩
theorem Sa{xs:List Fr}(h:vR l K M R (g+1) (g+1) (g+2) wa w p c vr (x::xs))(he:¬x.e=p):Opn p (x::xs):=by
 have:=h.ends.1;show p<x.e;omega
theorem IG{go C A cv:Nat}{ov:Option lH}(h:vR l K M R (g+1) (g+1) (g+2) wa w p c (ny (U (Z go 0 V)) (0+1) C) [x])(he:x.e=p)(O:x.v=ny ov A cv)(ag:x.L.length=A):
  jV jI 241 #[nD #[nz ⟨#[]⟩,nC true,ny ov A A],nA (U (Z (g+1) 0 V)),nA (U (Z (g+2) 0 V))] (w.setCell (Z (g+1) 0 V) (ny (U (Z go 0 V)) 0 C))
   λe w'=>e=nG (nE #[])/\vR l K M R (g+1) (g+1) (g+2) wa w' p c (ny (U (Z go 0 V)) 0 C) []:=by
 obtain⟨Q,h1,h2,I,_,hb,E⟩:=R7 h.Bq rfl;rw[O]at h2;have hs:=h2.subs;have J:g+2≠g+1:=nL;have hbw:nP (w.setCell (Z (g+1) 0 V) (ny (U (Z go 0 V)) 0 C)) (g+2) qX IT:=by
  unfold nP;rw[E _ J];exact h.res.1
 have:=zW (w.setCell (Z (g+1) 0 V) (ny (U (Z go 0 V)) 0 C)) (g+1) (g+1) (g+2) _ ⟨⟨[],true⟩,ny ov A A,x.L.map qg.tree⟩ Q _ _ _ h1 hbw (Nt hs) I;refine this.mono λe w' ⟨N,Y,aa,ae,af⟩=>⟨N,vR.whole h he Y aa ae I (hb.trans af)⟩
theorem Nz{x2:Fr}{xs:List Fr}{go C A cv N:Nat}{ov:Option lH}(h:vR l K M R (g+1) (g+1) (g+2) wa w p c (ny (U (Z go 0 V)) (N+1+1) C) (x::x2::xs))(he:x.e=p)(aa:x.v=ny ov A cv)(ak:x.L.length=A)(I:(x2::xs).length=N+1)(au:K<=16)(aj:M<=1024):
  jV jI 241 #[nD #[nz ⟨#[]⟩,nC true,ny ov A A],nA (U (Z (g+1) 0 V)),nA (U (Z (g+2) 0 V))] (w.setCell (Z (g+1) 0 V) (ny (U (Z go 0 V)) (N+1) C))
   λe w'=>e=nG (nE #[])/\∃v',vR l K M R (g+1) (g+1) (g+2) wa w' p c (ny (U (Z go 0 V)) (N+1) C) (⟨v',x2.L++[⟨⟨[],true⟩,ny ov A A,x.L.map qg.tree⟩],x2.e⟩::xs):=by
 obtain⟨Q,h1,h2,ae,af,hb,E⟩:=R7 h.Bq I;rw[aa]at h2;have hs:=h2.subs;have J:g+2≠g+1:=nL;have hbw:nP (w.setCell (Z (g+1) 0 V) (ny (U (Z go 0 V)) (N+1) C)) (g+2) qX IT:=by
  unfold nP;rw[E _ J];exact h.res.1
 have hlen:=h.len;have O:=h.Ls;have hc:=h.hc;simp at hlen O I;have:=De x2 xs (w.setCell (Z (g+1) 0 V) (ny (U (Z go 0 V)) (N+1) C)) (g+1) (g+1) (g+2) _ ⟨⟨[],true⟩,ny ov A A,x.L.map qg.tree⟩ Q _ h1 nL nL hbw (Nt hs) ae af (kH _);refine this.mono λe w' ⟨Y,v',ag,ah,ai⟩=>⟨Y,v',vR.close h he rfl ag ah (hb.trans ai)⟩
theorem Sb{s:ByteArray}(hl:s.data.toList=l)(p n:Nat):txt ⟨(l.drop p).take n,false⟩=s.extract p (p+n):=Uq (by
 rw[KN hl];show(l.drop p).take n=(l.drop p).take (p+n - p);rw[show p+n - p=n by omega])
theorem KP{s:ByteArray}{z n:Nat}(hl:s.data.toList=l)(E:wO K l M=R)(I:BP l (decide (K<=0)) (decide (M<=0))=.ok (false,z,n))(hs:rE w (g+1) (g+1) (g+2) vr [])(hb:nP w (g+2) qX IT)(J:jS (g+1) wa w):
  jV jI 241 #[nD #[nz (s.extract z (z+n)),nC false,ny V 0 0],nA (U (Z (g+1) 0 V)),nA (U (Z (g+2) 0 V))] w
   λe w'=>e=nG (nE #[])/\vR l K M R (g+1) (g+1) (g+2) wa w' (z+n) 1 vr []:=by
 have:=zW w (g+1) (g+1) (g+2) vr ⟨⟨(l.drop z).take n,false⟩,ny V 0 0,[]⟩ (λ_=>False) _ _ _ hs hb ⟨V,0,rfl,jK _,kH _,λh=>absurd h nS⟩ (λ_ h=>h.elim);rw[Sb hl]at this;refine this.mono λe w' ⟨A,N,C,O,Q⟩=>⟨A,?_⟩
 rw[<-E];rw[<-Sb hl]at C;exact vR.Qb I J N C O (λ_ h=>h.elim) Q
theorem a4c{s:ByteArray}{xs:List Fr}{z n:Nat}(hl:s.data.toList=l)(hs:s.size<=100000)(h:vR l K M R (g+1) (g+1) (g+2) wa w p c vr (x::xs))(hp:p<x.e)(Y:K<=16)(aa:M<=1024)(I:BP (zw l p x.e) (decide (K<=(x::xs).length)) (decide (M<=c))=.ok (false,z,n)):
  jV jI 241 #[nD #[nz (s.extract (p+z) (p+z+n)),nC false,ny V 0 0],nA (U (Z (g+1) 0 V)),nA (U (Z (g+2) 0 V))] w
   λe w'=>e=nG (nE #[])/\∃A,A.e=x.e/\vR l K M R (g+1) (g+1) (g+2) wa w' (p+z+n) (c+1) vr (A::xs):=by
 have hlen:=h.len;have C:=h.Ls;have hc:=h.hc;simp at hlen C;have ht:txt ⟨zw l (p+z) (p+z+n),false⟩=s.extract (p+z) (p+z+n):=Uq (KN hl _ _).symm;have Q:l.length=s.size:=by rw[<-hl];simp
 have:=De x xs w (g+1) (g+1) (g+2) vr ⟨⟨zw l (p+z) (p+z+n),false⟩,ny V 0 0,[]⟩ (λ_=>False) _ h.Bq nL nL h.res.1 ⟨V,0,rfl,jK _,kH _,λh=>absurd h nS⟩ (λ_ h=>h.elim)
  (h.Bq.Ij.keep (jK _) (λ_ _ _=>rfl) λc _ hc=>hc.elim id False.elim) (by
   show(zw l (p+z) (p+z+n)).length<=j3;unfold zw j3;simp;omega)
 rw[ht]at this;exact this.mono λe w' ⟨E,v',J,N,O⟩=>⟨E,⟨v',_,x.e⟩,rfl,vR.text h hp I rfl J N O⟩
theorem a4d{f:Fr}{xs:List Fr}{w1 w2:jJ}{z n A cap N:Nat}(h:vR l K M R (g+1) (g+1) (g+2) wa w p c vr (x::xs))(hp:p<x.e)(E:xs.length=N)(I:BP (zw l p x.e) (decide (K<=(x::xs).length)) (decide (M<=c))=.ok (true,z,n))(J:jS w.heap.size w w1)(O:f=⟨ny V 0 0,[],p+z+n⟩)(hrow:pQ rf2 2 w2 (g+1) RT (ny (U (Z A 0 V)) ((x::xs).reverse.length+1) cap) ((x::xs).reverse++[f]))(hg:w1.grownBy w2 vr.ownBlock)(C:vr.ownBlock=U A\/A=w1.heap.size):
  vR l K M R (g+1) (g+1) (g+2) wa (w2.setCell (Z (g+1) 0 V) (ny (U (Z A 0 V)) (N+1+1) cap)) (p+z) (c+1) (ny (U (Z A 0 V)) (N+1+1) cap) (f::x::xs):=by
 subst O E;rw[List.length_reverse]at hrow;obtain⟨Q,Y,aa⟩:=Ns h.Bq J ⟨rfl,rfl⟩ hrow hg C;exact vR.list h hp I Q ((aa _ h.Bq.lt nL h.Bq.nbw).trans h.res.1) Y
end
theorem GQ(a:IL)(s:List (nM IL)):enc (.node a s)=if a.list then hdr 192 (wh s).length++wh s else if single a.text then a.text else hdr 128 a.text.length++a.text:=by simp only[enc]
theorem NA{t:List UInt8}(h:t.length≠1):single t=false:=by
 cases t with
 |nil=>rfl
 |cons b r=>cases r with
  |nil=>simp at h
  |cons c r=>rfl
theorem Qc{a:IL}(h:(txt a).size=1):single a.text=decide ((txt a)[0].toNat<128):=by
 have h1:a.text.length=1:=by rw[<-sF];exact h
 obtain⟨t,li⟩:=a
 match t,h1 with
 |[b],_=>rfl
theorem tV.a6q{w w1:jJ}{Q I:Nat->Prop}{v:jP}{L:List (qg IL)}{x:qg IL}{g cap:Nat}(h:tV w Q v L)(hrow:pQ OD 3 w1 0 IT (ny (U (Z g 0 V)) (L.length+1) cap) (L++[x]))(hg:w.grownBy w1 v.ownBlock)(C:v.ownBlock=U g\/w.heap.size<=g)(O:nW w I x.u x.sub)(hxv:∀c,I c->v.ownBlock≠U c)(N:x.lab.text.length<=j3):
  tV w1 (λc=>Q c\/I c\/c=g) (ny (U (Z g 0 V)) (L.length+1) cap) (L++[x]):=by
 have hgn:∀c,c<w.heap.size->v.ownBlock≠U c->c≠g:=λc hc J e=>by
  rcases C with C|C
  .exact J (by rw[C,e])
  .omega
 have E:∀c,c<w.heap.size->v.ownBlock≠U c->w1.heap[c]? =w.heap[c]? :=λc hc J=>hg.block c hc (λe=>J e.symm)
 refine⟨hrow,λb hb=> ?_,λy A=> ?_⟩
 .simp[kJ]at hb
  exact .inr (.inr hb.symm)
 .rcases List.mem_append.1 A with A|A
  .refine⟨(h.2.2 y A).1,Shape.nX.keep (h.2.2 y A).2 hg.size (λc hc hq=>⟨.inl hq.1,?_⟩) λc hc hq=>E c hc hq.2⟩
   intro e;simp[kJ]at e;exact hgn c hc hq.2 e.symm
  .simp at A
   subst A;refine⟨N,Shape.nX.keep O hg.size (λc hc hq=>⟨.inr (.inl hq),?_⟩) λc hc hq=>E c hc (hxv c hq)⟩;exact KI
theorem XV{k:Nat}(h:∀l m er,wO k l m=.error er->2<=er):∀(f:Nat)(l:List UInt8)(m:Nat)(sub:List (nM IL))(er:Nat),l.length<f->MP (wO k) f l m sub=.error er->2<=er:=by
 intro f;induction f with
 |zero=>intro l m sub er h;omega
 |succ f A=>
  intro l m sub er hl he;simp only[MP]at he;split at he;.cases he
  .split at he
   .rename_i I C
    have:=h _ _ _ C;cases he;split<;>omega
   .rename_i y E
    obtain⟨h1,h2⟩:=Fs E;exact A _ _ _ _ nT he
theorem GR:∀(k:Nat)(l:List UInt8)(m er:Nat),wO k l m=.error er->2<=er:=by
 intro k;induction k with
 |zero=>intro l m er h;simp only[wO]at h;split at h<;>cases h<;>decide
 |succ k A=>
  intro l m er h;simp only[wO]at h;split at h;.cases h;decide
  split at h;.cases h;decide
  split at h
  .rename_i C he
   cases h;have:=R8 he;omega
  .rename_i q E
   split at h
   .split at h
    .rename_i C he
     cases h;refine XV A _ _ _ _ _ ?_ he;simp;omega
    .cases h
   .cases h
section
variable {g:Nat}{w0 w:jJ}{l0:List UInt8}{k m:Nat}{tot:Int}{I:List UInt8}{v:jP}{L:List (qg IL)}{cnt:Nat}
end
def UK(cb lb:Nat):Nat->Prop:=λc=>c≠cb/\c≠lb
def NC(cb lb fb:Nat)(y:RdV)(w:jJ)(e:Ending)(w':jJ):Prop:=
 ∃ov cv,e=nG (nD #[nz (txt y.1.lab),nC y.1.lab.list,ny ov y.1.sub.length cv])/\Bo cb lb fb y.2.1 y.2.2 w'/\nW w' (λc=>w.heap.size<=c) (ny ov y.1.sub.length cv) y.1.sub/\oN cb lb w w'
def a2I(cb lb fb:Nat)(y:List (nM IL)×RS×Nat)(w:jJ)(e:Ending)(w':jJ):Prop:=
 ∃ov cv,e=nG (nD #[nz ⟨#[]⟩,nC true,ny ov y.1.length cv])/\Bo cb lb fb y.2.1 y.2.2 w'/\nW w' (λc=>w.heap.size<=c) (ny ov y.1.length cv) y.1/\oN cb lb w w'
structure L7(g cb lb fb kb wk:Nat)(r r2:RS)(l l2:Nat)(k z:Int)(ou:Option lH)(nu cu:Nat)(tl:Int)(ts:List (nM TL))(xo:Option lH)(xc:Nat)(L:List (qg IL))(x:nM IL)(w0:jJ)(d4 d5 d6 d8:Bool)(v4 v5 v6:jP)(W:jJ):Prop where
 ly:Bo cb lb fb (if d4=true then r2 else r) (if d4=true then l2 else l) W
 rb:nP W g (EJ cb lb fb) EZ
 rs:nP W (g+1) #[nz ⟨#[]⟩,nC false,ny V 0 0] IT
 xb:nP W (g+2) #[nz ⟨#[]⟩,nC true,(if d8=true then v6 else ny xo L.length xc)] IT
 tb:d4=false->nP W kb #[nk nI k,nk nI z,ny ou nu cu,nk nI tl] rU/\wk<=W.heap.size/\oh.nX W (UK cb lb) (ny ou nu cu) ts
 own:d6=false->tV W (λc=>g+3<=c) (ny xo L.length xc) L/\∀b,(kM xo L.length xc).ownBlock=U b->b<wk
 sub:d4=true->d6=false->∃ov cv,v4=nD #[nz (txt x.lab),nC x.lab.list,ny ov x.sub.length cv]/\nW W (λc=>wk<=c) (ny ov x.sub.length cv) x.sub/\(d5=true->∃nb,v5=ny (U (Z nb 0 V)) 1 1/\nP W nb #[nz (txt x.lab),nC x.lab.list,ny ov x.sub.length cv] IT)
 fin:d6=true->∃e:qg IL,e.lab=x.lab/\e.sub=x.sub/\∃go gc,v6=ny (U (Z go 0 V)) (L.length+1) gc/\tV W (λc=>g+3<=c) v6 (L++[e])
 up:oN cb lb w0 W
 lt:cb<g/\lb<g/\fb<g/\g+3<=wk/\L.length<=100000/\x.lab.text.length<=j3/\w0.heap.size=g/\0<g
section
variable {g cb lb fb kb wk:Nat}{r r2:RS}{l l2:Nat}{k z:Int}{ou:Option lH}{nu cu:Nat}{tl:Int}{ts:List (nM TL)}{xo:Option lH}{xc:Nat}{L:List (qg IL)}{x:nM IL}{w0:jJ}{d4 d5 d6 d8:Bool}{v4 v5 v6:jP}{W W':jJ}
theorem L7.call{ov:Option lH}{cv:Nat}(h:L7 g cb lb fb kb wk r r2 l l2 k z ou nu cu tl ts xo xc L x w0 false false false false v4 v5 v6 W)(hl:Bo cb lb fb r2 l2 W')(hs:nW W' (λc=>W.heap.size<=c) (.slice ov x.sub.length cv) x.sub)(A:oN cb lb W W'):
  L7 g cb lb fb kb wk r r2 l l2 k z ou nu cu tl ts xo xc L x w0 true false false false (nD #[nz (txt x.lab),nC x.lab.list,ny ov x.sub.length cv]) v5 v6 W':=by
 obtain⟨J,N,t3⟩:=h.tb rfl;obtain⟨E,I⟩:=h.own rfl;have h1:=h.lt;refine⟨hl,A.blk h.rb nL nL,A.blk h.rs nL nL,A.blk h.xb nL nL,(λh=>by cases h),λ_=>⟨tV.keep E A.size (λc hc C=>A.block c hc (by have:g+3<=c:=C;omega) (by have:g+3<=c:=C;omega)) λ_ _ h=>h,I⟩,λ_ _=>⟨ov,cv,rfl,Shape.nX.keep hs (jK _) (λc _ hc=>by have:W.heap.size<=c:=hc;show wk<=c;omega) λ_ _ _=>rfl,λh=>by cases h⟩,(λh=>by cases h),h.up.trans A,h.lt⟩
theorem L7.box(h:L7 g cb lb fb kb wk r r2 l l2 k z ou nu cu tl ts xo xc L x w0 true false false false v4 v5 v6 W){ov:Option lH}{cv:Nat}(A:v4=nD #[nz (txt x.lab),nC x.lab.list,ny ov x.sub.length cv]):
  L7 g cb lb fb kb wk r r2 l l2 k z ou nu cu tl ts xo xc L x w0 true true false false v4 (ny (U (Z W.heap.size 0 V)) 1 1) v6 (W.alloc (nH #[nz (txt x.lab),nC x.lab.list,ny ov x.sub.length cv] IT)):=by
 have hb:=(jT W.heap.size W).alloc (jK _) (nH #[nz (txt x.lab),nC x.lab.list,ny ov x.sub.length cv] IT);obtain⟨C,E⟩:=h.own rfl;obtain⟨J,N,e1,I,_⟩:=h.sub rfl rfl;rw[A]at e1;cases e1;refine⟨h.ly.below hb,Below.blk hb h.rb h.rb.lt,Below.blk hb h.rs h.rs.lt,Below.blk hb h.xb h.xb.lt,(λh=>by cases h),λ_=>⟨tV.keep C hb.size (λc hc O=>hb.block c hc) λ_ _ h=>h,E⟩,λ_ _=>⟨ov,cv,A,Shape.nX.below I hb,λ_=>⟨_,rfl,nP.new W _ _⟩⟩,(λh=>by cases h),h.up.trans (oN.of hb),h.lt⟩
theorem L7.app(h:L7 g cb lb fb kb wk r r2 l l2 k z ou nu cu tl ts xo xc L x w0 true true false false v4 v5 v6 W){ov:Option lH}{cv go gc:Nat}(N:v4=nD #[nz (txt x.lab),nC x.lab.list,ny ov x.sub.length cv])(h2:pQ OD 3 W' 0 IT (ny (U (Z go 0 V)) (L.length+1) gc) (L++[⟨x.lab,ny ov x.sub.length cv,x.sub⟩]))(C:W.grownBy W' (kM xo L.length xc).ownBlock)(E:(kM xo L.length xc).ownBlock=U go\/go=W.heap.size):
  L7 g cb lb fb kb wk r r2 l l2 k z ou nu cu tl ts xo xc L x w0 true true true false v4 v5 (ny (U (Z go 0 V)) (L.length+1) gc) W':=by
 obtain⟨I,O⟩:=h.own rfl;obtain⟨af,ag,e1,Q,_⟩:=h.sub rfl rfl;rw[N]at e1;cases e1;have h1:=h.lt;have J:∀c,c<g+3->(kM xo L.length xc).ownBlock≠U c:=λc hc e=>by have:=I.2.1 c e;have:g+3<=c:=this;omega
 have k:∀{c:Nat}{cs:Array jP}{t:ko},nP W c cs t->c<g+3->nP W' c cs t:=λhb hc=>pg hb C λy Y e=>J _ hc (by rw[Y,e])
 have A:=h.ly;have ah:oN cb lb W W'->uV W':=λu=>vJ A.tab u A.ne.2.2.2.1 A.ne.2.2.2.2
 have hsz:g+3<=W.heap.size:=by have:=h.xb.lt;omega
 refine⟨⟨k A.rd nL,A.ok,k A.lf nL,k A.fr nL,?_,A.ne⟩,k h.rb nL,k h.rs nL,k h.xb nL,(λh=>by cases h),(λh=>by cases h),λ_ h=>(by cases h),λ_=>⟨⟨x.lab,ny ov x.sub.length cv,x.sub⟩,rfl,rfl,go,gc,rfl,?_⟩,?_,h.lt⟩
 .have ht:∀i,W'.cell? (Z 0 i V)=W.cell? (Z 0 i V):=λi=>by
   have hb:=C.block 0 A.tab.lt (λe=>by
    have:=I.2.1 _ e.symm;have aa:g+3<=0:=this;exact absurd aa (by have:=h.lt.2.2.2.2.2.2.2;omega))
   simp only[mI,hb]
  exact⟨(ht 0).trans A.tab.a,(ht 1).trans A.tab.b,(ht 2).trans A.tab.c⟩
 .have q:=tV.a6q (x:=⟨x.lab,ny ov x.sub.length cv,x.sub⟩) I h2 C (E.imp id λe=>by omega) Q (λc hc e=>by have:=O c e;have:wk<=c:=hc;omega) h.lt.2.2.2.2.2.1
  refine tV.keep q (jK _) (λ_ _ _=>rfl) λc _ hc=> ?_
  rcases hc with hc|hc|hc
  .exact hc
  .have:wk<=c:=hc;show g+3<=c;omega
  .show g+3<=c
   rcases E with E|E
   .have:=I.2.1 go E;have:g+3<=go:=this;omega
   .omega
 .refine⟨C.os.trans h.up.os,C.tape.trans h.up.tape,C.output.trans h.up.output,jY h.up.size C.size,λc hc hb ae=>(C.block c (kG hc h.up.size) λe=>J c nL e.symm).trans (h.up.block c hc hb ae)⟩
theorem L7.put(h:L7 g cb lb fb kb wk r r2 l l2 k z ou nu cu tl ts xo xc L x w0 true true true false v4 v5 v6 W):L7 g cb lb fb kb wk r r2 l l2 k z ou nu cu tl ts xo xc L x w0 true true true true v4 v5 v6 (W.setCell (Z (g+2) 2 V) v6):=by
 have h1:=h.lt;have o:∀{c:Nat}{cs:Array jP}{t:ko},nP W c cs t->c≠g+2->nP (W.setCell (Z (g+2) 2 V) v6) c cs t:=λh hn=>h.setOther (a:=(Z (g+2) 2 V)) hn _
 have A:=h.ly;obtain⟨e,e1,e2,go,gc,e3,e4⟩:=h.fin rfl;have ht:0<g:=h.lt.2.2.2.2.2.2.2;have E:oN cb lb W W->True:=λ_=>trivial
 refine⟨⟨o A.rd nL,A.ok,o A.lf nL,o A.fr nL,?_,A.ne⟩,o h.rb nL,o h.rs nL,h.xb.set 2 v6,(λh=>by cases h),(λh=>by cases h),λ_ h=>(by cases h),λ_=>⟨e,e1,e2,go,gc,e3,tV.keep e4 (by simp[kz]) (λc hc C=> ?_) λ_ _ h=>h⟩,?_,h.lt⟩
 .have key:∀i,(W.setCell (Z (g+2) 2 V) v6).cell? (Z 0 i V)=W.cell? (Z 0 i V):=λi=>by
   have hb:=j6 W (Z (g+2) 2 V) v6 0 (by show 0≠g+2;omega);simp only[mI,hb]
  exact⟨(key 0).trans A.tab.a,(key 1).trans A.tab.b,(key 2).trans A.tab.c⟩
 .have:g+3<=c:=C
  exact j6 W (Z (g+2) 2 V) v6 c (by show c≠g+2;omega)
 .exact⟨h.up.os,h.up.tape,h.up.output,by simpa [kz]using h.up.size,λc hc hb C=>(j6 W (Z (g+2) 2 V) v6 c (by show c≠g+2;omega)).trans (h.up.block c hc hb C)⟩
theorem L7.drew(h:L7 g cb lb fb kb wk r r2 l l2 k z ou nu cu tl ts xo xc L x w0 false false false false v4 v5 v6 W)(A C E:jP):L7 g cb lb fb kb wk r r2 l l2 k z ou nu cu tl ts xo xc L x w0 false false false false A C E W.drew:=
 ⟨h.ly.below (oC W),h.rb,h.rs,h.xb,λ_=>⟨(h.tb rfl).1,(h.tb rfl).2.1,Shape.nX.below (h.tb rfl).2.2 (oC W)⟩,λ_=>⟨tV.keep (h.own rfl).1 (jK _) (λ_ _ _=>rfl) λ_ _ h=>h,(h.own rfl).2⟩,(λh=>by cases h),(λh=>by cases h),h.up.drew,h.lt⟩
end
noncomputable def KQ:List lY:=cO (cR (cR (cR (cL (cL (cR (cR (cL (cL (cR (cL (cR (cR (cB Tryz.f249))))))))))))))
section
variable (g cb lb fb kb wk:Nat)(r r2:RS)(l l2:Nat)(k z:Int)(ou:Option lH)(nu cu:Nat)(tl:Int)(ts:List (nM TL))(xo:Option lH)(xc:Nat)(L:List (qg IL))(x:nM IL)(w0:jJ)
def GU:Nat->jP
 |0=> nA (U (Z (g+2) 2 V))
 |1=> ny xo L.length xc
 |2=> nD #[Bl cb,Da cb,Dz cb,Ci cb,Bn fb,nA (U (Z lb 0 V))]
 |3=> nD #[nk nI k,nk nI z,ny ou nu cu,nk nI tl]
 |7=> nA (U (Z (g+2) 2 V))
 |_=>kI
structure a8X(D:Nat->Bool)(vs:Nat->jP)(w:jJ):Prop where
 oH:L7 g cb lb fb kb wk r r2 l l2 k z ou nu cu tl ts xo xc L x w0 (D 4) (D 5) (D 6) (D 8) (vs 4) (vs 5) (vs 6) w
 val:∀j,(j !=4&&j !=5&&j !=6)=true->D j=true->vs j=GU g cb lb fb k z ou nu cu tl xo xc L j
variable {g cb lb fb kb wk r r2 l l2 k z ou nu cu tl ts xo xc L x w0}
theorem a4e{id:Nat}{Q:Exit->Act->jJ->Prop}{a0:Act}{af:jJ}(EK:a0.tmps.getD 7 kI=nA (U (Z (g+2) 0 V)))(ht3:a0.tmps.getD 3 kI=nA (U (Z g 0 V)))(Js:a0.tmps.getD 9 kI=nA (U (Z kb 0 V)))(hval:∀W,Bo cb lb fb r l W->oN cb lb w0 W->oh.nX W (UK cb lb) (ny ou nu cu) ts->jV jI 211 #[nD #[Bl cb,Da cb,Dz cb,Ci cb,Bn fb,nA (U (Z lb 0 V))],nD #[nk nI k,nk nI z,ny ou nu cu,nk nI tl]] W (NC cb lb fb (x,r2,l2) W))(hsz:a0.tmps.size=40)(hI0:∀vs:Nat->jP,(λw=>L7 g cb lb fb kb wk r r2 l l2 k z ou nu cu tl ts xo xc L x w0 false false false false (vs 4) (vs 5) (vs 6) w) af.drew)(ag:∀(vs:Nat->jP) (w:jJ),L7 g cb lb fb kb wk r r2 l l2 k z ou nu cu tl ts xo xc L x w0 true true true true (vs 4) (vs 5) (vs 6) w->Q .normal {a0 with tmps:=((((((((a0.tmps.setIfInBounds 30 (nA (U (Z (g+2) 2 V)))).setIfInBounds 31 (ny xo L.length xc)).setIfInBounds 32 (nD #[Bl cb,Da cb,Dz cb,Ci cb,Bn fb,nA (U (Z lb 0 V))])).setIfInBounds 33 (nD #[nk nI k,nk nI z,ny ou nu cu,nk nI tl])).setIfInBounds 34 (vs 4)).setIfInBounds 35 (vs 5)).setIfInBounds 36 (vs 6)).setIfInBounds 37 (nA (U (Z (g+2) 2 V))))} w):
  (ll id KQ.toArray true).wp jI Q a0 af:=by
 refine og 9 40 (a8X g cb lb fb kb wk r r2 l l2 k z ou nu cu tl ts xo xc L x w0) nN hsz nN (.inl rfl) nN ?_ ?_ ?_;.exact qB
 .refine rM λA ay=> ?_
  clear hI0 ag hsz;replace EK:=jH EK;replace ht3:=jH ht3;replace Js:=jH Js;replace hval:=jH hval;dsimp+instances only[KQ,cO,cL,cR,cB,Tryz.f249];simp only[ky,kL,qW];refine⟨?_,?_,?_,?_,?_,?_,?_,?_,?_,trivial⟩<;>(intro D vs a w K hI hd E hw2 I J;subst ay;dsimp+instances only[KQ,cO,cL,cR,cB,Tryz.f249]);have az:=(I 7 nO).trans EK.out;rotate_left;have ah:=fe I hI.val E 30 0;simp only[GU]at ah;have C:=hI.oH;rw[hw2 8 nO nN]at C;have c0:=C.xb.cell 2;simp only[lV,if_false,jO,jN,jM]at c0;clear C;rotate_left;have e3:=(I 3 nO).trans ht3.out;have hB:=hI.oH.rb;have c0:=hB.cell 0;have c1:=hB.cell 1;have c2:=hB.cell 2;have c3:=hB.cell 3;have c4:=hB.cell 4;have c5:=hB.cell 5;simp only[EJ,jO,jN,jM]at c0 c1 c2 c3 c4 c5;clear hB;rotate_left;have aH:=(I 9 nO).trans Js.out;have hB:=(hI.oH.tb (hw2 4 nO nN)).1;obtain⟨⟨c0,c1,c2,c3⟩,_⟩:=oG hB;clear hB;rotate_left
  .have hval:=hval.out
   have ai:=fe I hI.val E 32 2;have aj:=fe I hI.val E 33 3;simp only[GU]at ai aj;have C:=hI.oH;rw[hd,hw2 5 nO nN,hw2 6 nO nN,hw2 8 nO nN]at C;have aA:=hval w C.ly C.up (C.tb rfl).2.2;rw[if_pos (by rfl)];clear hval;go_simp;refine aA.mono ?_;rintro e aB ⟨ov,cv,rfl,hl,hs,Y⟩;refine J _ _ _ rfl ⟨?_,KG rfl hI.val⟩;rw[oo,nR D (show 5≠4 by decide),nR D (show 6≠4 by decide),nR D (show 8≠4 by decide),pG,om vs _ (show 5≠4 by decide),om vs _ (show 6≠4 by decide),hw2 5 nO nN,hw2 6 nO nN,hw2 8 nO nN];exact C.call hl hs Y
  .have d4:=E 4 nO nN
   have N:a.tmps.getD 34 kI=vs 4:=I 34 nO;have C:=hI.oH;rw[hd,d4,hw2 6 nO nN,hw2 8 nO nN]at C;obtain⟨ov,cv,e4,_⟩:=C.sub rfl rfl;have N:=N.trans e4;have aC:a.tmps[34]?.getD kI=nD #[nz (txt x.lab),nC x.lab.list,ny ov x.sub.length cv]:=by simpa using N
   go_simp;refine J (ny (U (Z w.heap.size 0 V)) 1 1) _ _ rfl ⟨?_,KG rfl hI.val⟩;rw[oo,nR D (show 4≠5 by decide),nR D (show 6≠5 by decide),nR D (show 8≠5 by decide),pG,om vs _ (show 4≠5 by decide),om vs _ (show 6≠5 by decide),d4,hw2 6 nO nN,hw2 8 nO nN];exact C.box e4
  .have aa:=fe I hI.val E 31 1
   have d5:=E 5 nO nN;have ak:a.tmps.getD 35 kI=vs 5:=I 35 nO;simp only[GU]at aa;have C:=hI.oH;rw[hd,E 4 nO nN,d5,hw2 8 nO nN]at C;obtain⟨ov,cv,e4,aI,au⟩:=C.sub rfl rfl;obtain⟨nb,e5,hB⟩:=au rfl;obtain⟨aD,aJ⟩:=C.own rfl;have hlt:=C.lt;refine yh XH rfl (.tmp 31) (.tmp 35) rfl (y:=⟨x.lab,ny ov x.sub.length cv,x.sub⟩) aa aD.1 (ak.trans e5) hB rfl (by intro u Y;simp[OD]at Y;rcases Y with rfl|rfl|rfl<;>rfl) nL (kH _) ?_;intro go gc aB h2 aF aG aK;refine J _ _ _ rfl ⟨?_,KG rfl hI.val⟩;rw[oo,nR D (show 4≠6 by decide),nR D (show 5≠6 by decide),nR D (show 8≠6 by decide),pG,om vs _ (show 4≠6 by decide),om vs _ (show 5≠6 by decide),E 4 nO nN,d5,hw2 8 nO nN];exact C.app e4 h2 aF aG
  have az:=(I 7 nO).trans EK.out;rotate_left
  .have d6:=E 6 nO nN
   have ae:a.tmps.getD 36 kI=vs 6:=I 36 nO;have av:=fe I hI.val E 37 7;simp only[GU]at av;have C:=hI.oH;rw[hd,E 4 nO nN,E 5 nO nN,d6]at C;have c0:=C.xb.cell 2;have aL:=C.xb.free 2;obtain⟨e,_,_,go,gc,ax,_⟩:=C.fin rfl;have ae:=ae.trans ax;simp only[lV,if_false,jO,jN,jM]at c0;go_simp;refine J kI _ _ rfl ⟨?_,uK hI.val⟩;rw[oo,nR D (show 4≠8 by decide),nR D (show 5≠8 by decide),nR D (show 6≠8 by decide),om vs _ (show 4≠8 by decide),om vs _ (show 5≠8 by decide),om vs _ (show 6≠8 by decide),E 4 nO nN,E 5 nO nN,d6];rw[<-ax];exact C.put
  all_goals
   go_simp;exact J _ _ _ rfl ⟨hI.oH,uK hI.val⟩
 .intro D vs w O hI
  have E:=hI.oH;rw[O 4 nO]at E;rw[O 5 nO]at E;rw[O 6 nO]at E;rw[O 8 nO]at E;have q:=ag vs w E;rw[oW hI.val O];dsimp+instances only[KQ,cO,cL,cR,cB,Tryz.f249];exact qH
end
structure UL(g cb lb fb:Nat)(r:RS)(l:Nat)(w0:jJ)(xo:Option lH)(xc:Nat)(L:List (qg IL))(W:jJ):Prop where
 ly:Bo cb lb fb r l W
 rb:nP W g (EJ cb lb fb) EZ
 rs:nP W (g+1) #[nz ⟨#[]⟩,nC false,ny V 0 0] IT
 xb:nP W (g+2) #[nz ⟨#[]⟩,nC true,ny xo L.length xc] IT
 own:tV W (λc=>g+3<=c) (ny xo L.length xc) L
 up:oN cb lb w0 W
 lt:cb<g/\lb<g/\fb<g/\w0.heap.size=g/\0<g
section
variable {g cb lb fb:Nat}{r r':RS}{l l':Nat}{w0 W W':jJ}{xo:Option lH}{xc:Nat}{L:List (qg IL)}
theorem UL.below(h:UL g cb lb fb r l w0 xo xc L W)(hb:jS W.heap.size W W'):UL g cb lb fb r l w0 xo xc L W':=
 ⟨h.ly.below hb,Below.blk hb h.rb h.rb.lt,Below.blk hb h.rs h.rs.lt,Below.blk hb h.xb h.xb.lt,tV.keep h.own hb.size (λc hc _=>hb.block c hc) λ_ _ h=>h,h.up.trans (oN.of hb),h.lt⟩
theorem Qd(h:UL g cb lb fb r l w0 xo xc L W):nP (pM W (g+1) (nz ⟨#[]⟩) (nC true) (ny xo L.length xc)) (g+1) #[nz ⟨#[]⟩,nC true,ny xo L.length xc] IT/\
  Bo cb lb fb r l (pM W (g+1) (nz ⟨#[]⟩) (nC true) (ny xo L.length xc))/\nW (pM W (g+1) (nz ⟨#[]⟩) (nC true) (ny xo L.length xc)) (λc=>g<=c) (ny xo L.length xc) (L.map qg.tree)/\
  oN cb lb w0 (pM W (g+1) (nz ⟨#[]⟩) (nC true) (ny xo L.length xc)):=by
 have h1:=h.lt;have hh:∀c,c≠g+1->(pM W (g+1) (nz ⟨#[]⟩) (nC true) (ny xo L.length xc)).heap[c]? =W.heap[c]? :=λc hc=>by
  simp[pM,kz,lu,Ne.symm hc]
 have hs:(pM W (g+1) (nz ⟨#[]⟩) (nC true) (ny xo L.length xc)).heap.size=W.heap.size:=by simp[pM,kz]
 have o:∀{c:Nat}{cs:Array jP}{t:ko},nP W c cs t->c≠g+1->nP (pM W (g+1) (nz ⟨#[]⟩) (nC true) (ny xo L.length xc)) c cs t:=λh hn=>by unfold nP at*;rw[hh _ hn];exact h
 have A:=h.ly;refine⟨((h.rs.set 0 _).set 1 _).set 2 _,⟨o A.rd nL,A.ok,o A.lf nL,o A.fr nL,?_,A.ne⟩,?_,?_⟩
 .have key:∀i,(pM W (g+1) (nz ⟨#[]⟩) (nC true) (ny xo L.length xc)).cell? (Z 0 i V)=W.cell? (Z 0 i V):=λi=>by
   simp only[mI,hh 0 nL]
  exact⟨(key 0).trans A.tab.a,(key 1).trans A.tab.b,(key 2).trans A.tab.c⟩
 .have q:=tV.subs h.own
  refine Shape.nX.keep (by simpa using q) (mR hs.symm) (λc _ hc=>by have:g+3<=c:=hc;show g<=c;omega) λc _ hc=>hh c (by have:g+3<=c:=hc;omega)
 .exact⟨h.up.os,h.up.tape,h.up.output,by rw[hs];exact h.up.size,λc hc hb C=>(hh c nL).trans (h.up.block c hc hb C)⟩
theorem UL.of7{kb wk:Nat}{r2:RS}{l2:Nat}{k z:Int}{ou:Option lH}{nu cu:Nat}{tl:Int}{ts:List (nM TL)}{x:nM IL}{v4 v5 v6:jP}(h:L7 g cb lb fb kb wk r r2 l l2 k z ou nu cu tl ts xo xc L x w0 true true true true v4 v5 v6 W):
  ∃(e:qg IL) (go:Option lH) (gc:Nat),e.tree=x/\UL g cb lb fb r2 l2 w0 go gc (L++[e]) W:=by
 obtain⟨e,e1,e2,go,gc,e3,e4⟩:=h.fin rfl;have h1:=h.lt;subst e3;have hl:(L++[e]).length=L.length+1:=nS;refine⟨e,U (Z go 0 V),gc,by unfold qg.tree;rw[e1,e2];exact nM.eta x,⟨h.ly,h.rb,h.rs,?_,?_,h.up,nL⟩⟩;.rw[hl];exact h.xb
 .rw[hl];exact e4
theorem UL.to7(h:UL g cb lb fb r l w0 xo xc L W){wk:Nat}(r2:RS)(l2:Nat)(k z:Int)(ou:Option lH)(nu cu:Nat)(tl:Int)(ts:List (nM TL))(x:nM IL)(C:oh.nX W (UK cb lb) (ny ou nu cu) ts)(hL:L.length<=100000)(I:x.lab.text.length<=j3)(A:W.heap.size=wk)(v4 v5 v6:jP):
  L7 g cb lb fb wk wk r r2 l l2 k z ou nu cu tl ts xo xc L x w0 false false false false v4 v5 v6 (W.alloc (nH #[nk nI k,nk nI z,ny ou nu cu,nk nI tl] rU)):=by
 have hb:=(jT W.heap.size W).alloc (jK _) (nH #[nk nI k,nk nI z,ny ou nu cu,nk nI tl] rU);have h1:=h.lt;have h2:=h.xb.lt;have q:=h.below hb;have hn:=nP.new W #[nk nI k,nk nI z,ny ou nu cu,nk nI tl] rU;rw[A]at hn;exact⟨q.ly,q.rb,q.rs,q.xb,λ_=>⟨hn,nT,Shape.nX.below C hb⟩,λ_=>⟨q.own,λb E=>A▸(h.own.1.block b E).2.1⟩,(λh=>by cases h),(λh=>by cases h),q.up,⟨h1.1,h1.2.1,h1.2.2.1,nL,hL,I,h1.2.2.2.1,h1.2.2.2.2⟩⟩
end
theorem XW(h:p:=by
 subst hW;have a1:=(jT w.heap.size w).alloc (jK _) (nH (EJ cb lb fb) EZ);have a2:=a1.alloc nS (nH #[nz ⟨#[]⟩,nC false,ny V 0 0] IT);have a3:=a2.alloc nT (nH #[nz ⟨#[]⟩,nC true,ny V 0 0] IT);have k1:=nP.new w (EJ cb lb fb) EZ;have k2:=nP.new (w.alloc (nH (EJ cb lb fb) EZ)) #[nz ⟨#[]⟩,nC false,ny V 0 0] IT;have k3:=nP.new ((w.alloc (nH (EJ cb lb fb) EZ)).alloc (nH #[nz ⟨#[]⟩,nC false,ny V 0 0] IT)) #[nz ⟨#[]⟩,nC true,ny V 0 0] IT;rw[show(w.alloc (nH (EJ cb lb fb) EZ)).heap.size=g+1 by simp[hg]]at k2;rw[show((w.alloc (nH (EJ cb lb fb) EZ)).alloc (nH #[nz ⟨#[]⟩,nC false,ny V 0 0] IT)).heap.size=g+2 by simp[hg]]at k3;rw[hg]at k1;exact⟨hI.below a3,(k1.alloc _).alloc _,k2.alloc _,k3,tV.nil _ _,oN.of a3,⟨nL,nL,nL,hg,hg▸hI.tab.lt⟩⟩):p:=h
theorem a2J(h:p:=by
 obtain⟨k,r',l',xo,xc,L,rfl,hk,HJ⟩:=hrel;by_cases c:k<n
 .obtain⟨t,ht⟩:∃t,ts[k]? =U t:=⟨_,jW (by rw[HN.out];exact c)⟩
  have hdr:ts.drop k=t::ts.drop (k+1):=by
   obtain⟨h1,h2⟩:=lF.1 ht;rw[List.drop_eq_getElem_cons h1,h2]
  have HST:jX (qI f (ts.drop k) r' l'=if(t.2=true\/r'.p<r'.t.size)/\r'.f=0 then((f t.1 r' l').1::(qI f (ts.drop (k+1)) (f t.1 r' l').2.1 (f t.1 r' l').2.2).1,(qI f (ts.drop (k+1)) (f t.1 r' l').2.1 (f t.1 r' l').2.2).2)else([],r',l')):=jH (by rw[hdr];rfl);have CO:=jH (HOF wr r' l' HJ.1.up HJ.1.ly k t ht);have HM:jX (t∈ts):=jH (kK ht);clear ht hdr;have HJ1:=jH HJ.1;have HLY:=jH HJ.2;clear HJ;go_wp2_with fail;refine CO.mono ?_;rintro e w2 ⟨ou,cu,rfl,hs,hb⟩;have HJ2:=jH (HJ1.below hb);have HS:=jH hs;clear hb hs CO HJ1;have HFD:∀W,vW W cb r'->_:=λW h=>qd cb r' W h
  obtain⟨b,hbb⟩:=nV ((t.2||decide (r'.p<r'.t.size)));have HB:=jH hbb;rw[hbb];clear hbb;cases b with
  |false=>
   have PT:jX (Y=(L.map qg.tree,r',l')):=jH (by
    rw[HLY.2,HST.out,if_neg];.simp
    .intro h
     have h2:=HB.out;simp only[Bool.or_eq_false_iff,decide_eq_false_iff_not]at h2;rcases h.1 with h3|h3
     .rw[h3]at h2;cases h2.1
     .exact h2.2 h3)
   go_upto_region 6 with fail;have hJ3:=HJ2.below ((jT _ _).alloc (jK _) (nH #[nk nI t.1.lab.kind,nk nI t.1.lab.size,ny ou t.1.sub.length cu,nk nI t.1.lab.tail] rU));generalize w2.alloc _=w3 at*;have Qe:=jH hJ3;clear hJ3 HJ2 HS;obtain⟨x0,x1,x2⟩:=Qe.xb.a3;obtain⟨y0,y1,y2,z0,z1,z2⟩:=Qe.rs.b3;go_wp2_with fail;rw[qb];obtain⟨hb,hl,hs,hu⟩:=Qd Qe.out;obtain⟨d0,d1,d2⟩:=hb.a3;refine jZ (v:=nD #[nz ⟨#[]⟩,nC true,ny xo L.length xc]) (by simp[kQ,Tryz.results249,go_sem,d0,d1,d2]) rfl ?_;rw[PT.out];exact⟨xo,xc,nS,hl,by rw[hg];simpa using hs,hu⟩
  |true=>
   go_upto_region 6 with fail;have hJ3:=HJ2.below ((jT _ _).alloc (jK _) (nH #[nk nI t.1.lab.kind,nk nI t.1.lab.size,ny ou t.1.sub.length cu,nk nI t.1.lab.tail] rU));have h7:=λr2 l2 x hx hL=>HJ2.to7 r2 l2 t.1.lab.kind t.1.lab.size ou t.1.sub.length cu t.1.lab.tail t.1.sub x HS hL hx rfl
   generalize w2.alloc _=w3 at*;generalize w2.heap.size=kb at*;have Qe:=jH hJ3;have H7:=jH h7;clear hJ3 HJ2 HS h7;have c2:=Qe.rb.cell 2;simp only[EJ,jO,jN,jM]at c2;unfold Dz at c2;go_wp2_with fail;refine(HFD _ Qe.ly.rd).mono ?_;rintro e w4 ⟨rfl,rfl⟩;by_cases hf:r'.f=0
   .have t0:(r'.f !=0)=false:=by simp[hf]
    have HF:=jH hf;clear hf HFD;go_upto_region 7 with fail;have hx:=HTX.out t.1 r' l' Qe.ly.ok.1.2;have HL:jX (L.length<=100000):=jH (by rw[HLY.1];omega);have HVC:=jH (a4f t HM);have HY2:jX (Y=(L.map qg.tree++((f t.1 r' l').1::(qI f (ts.drop (k+1)) (f t.1 r' l').2.1 (f t.1 r' l').2.2).1),(qI f (ts.drop (k+1)) (f t.1 r' l').2.1 (f t.1 r' l').2.2).2)):=jH (by
     rw[HLY.2,HST.out,if_pos];refine⟨?_,HF.out⟩;have h2:=HB.out;simp only[Bool.or_eq_true,decide_eq_true_eq]at h2;exact h2)
    have HLK:=jH HLY.1;clear HLY HST HB HTX a4f HOF;have a4g:jX (∀W ou cu,oN cb lb w W->Bo cb lb fb r' l' W->_->_):=jH λW ou cu=>HVC.out W r' l' ou cu
    clear HVC;obtain⟨⟨x,r2,l2⟩,hy⟩:∃y,f t.1 r' l'=y:=⟨_,rfl⟩;simp only[hy]at a4g HY2 hx;clear hy
    refine a4e (g:=g) (cb:=cb) (lb:=lb) (fb:=fb) (kb:=kb) (wk:=kb) (r:=r') (r2:=r2) (l:=l') (l2:=l2) (k:=t.1.lab.kind) (z:=t.1.lab.size) (ou:=ou) (nu:=t.1.sub.length) (cu:=cu) (tl:=t.1.lab.tail) (ts:=t.1.sub) (xo:=xo) (xc:=xc) (L:=L) (x:=x) (w0:=w)
     (EK:=by rfl) (ht3:=by rfl) (Js:=by rfl) (hsz:=by rfl) (hval:=λW hl hu hs=>a4g.out W ou cu hu hl hs) (hI0:=λvs=>(H7 r2 l2 x hx HL (vs 4) (vs 5) (vs 6)).drew _ _ _) ?_
    intro vs W hW;obtain⟨e,go,gc,he,hJ5⟩:=UL.of7 hW;have HJ5:=jH hJ5;clear hW hJ5 Qe H7 a4g;generalize vs 4=v4;generalize vs 5=v5;generalize vs 6=v6;simp only[jL,jQ,jR];have HXE:jX (e.tree=x):=jH he;clear he hx;go_wp2_with fail;go_roundw;case rel=>exact⟨k+1,r2,l2,go,gc,L++[e],by go_num,nL,jH ⟨HJ5.out,by rw[j5,HLK.out];rfl,by rw[HY2.out];simp[HXE.out]⟩⟩
    case measure=>simp[kT];omega
   .have t0:(r'.f !=0)=true:=by simp[hf]
    have PT:jX (Y=(L.map qg.tree,r',l')):=jH (by
     rw[HLY.2,HST.out,if_neg λh=>hf h.2];simp)
    clear hf HFD;obtain⟨x0,x1,x2⟩:=Qe.xb.a3;obtain⟨y0,y1,y2,z0,z1,z2⟩:=Qe.rs.b3;go_wp2_with fail;rw[qb];obtain⟨hb,hl,hs,hu⟩:=Qd Qe.out;obtain⟨d0,d1,d2⟩:=hb.a3;refine jZ (v:=nD #[nz ⟨#[]⟩,nC true,ny xo L.length xc]) (by simp[kQ,Tryz.results249,go_sem,d0,d1,d2]) rfl ?_;rw[PT.out];exact⟨xo,xc,nS,hl,by rw[hg];simpa using hs,hu⟩
 .have PT:jX (Y=(L.map qg.tree,r',l')):=jH (by
   rw[HJ.2.2,List.drop_eq_nil_of_le (by rw[HN.out];omega)];simp[qI])
  have Qe:=jH HJ.1;clear HJ;obtain⟨x0,x1,x2⟩:=Qe.xb.a3;obtain⟨y0,y1,y2,z0,z1,z2⟩:=Qe.rs.b3;go_wp2_with fail;rw[qb];obtain⟨hb,hl,hs,hu⟩:=Qd Qe.out;obtain⟨d0,d1,d2⟩:=hb.a3;refine jZ (v:=nD #[nz ⟨#[]⟩,nC true,ny xo L.length xc]) (by simp[kQ,Tryz.results249,go_sem,d0,d1,d2]) rfl ?_;rw[PT.out];exact⟨xo,xc,nS,hl,by rw[hg];simpa using hs,hu⟩):p:=h
theorem UM(cb lb fb tb rb:Nat)(r:RS)(l:Nat)(ts:List (nM TL×Bool))(f:nM TL->RS->Nat->RdV)(w:jJ)(hI:Bo cb lb fb r l w)(hn:ts.length<=65536)(O:cb<w.heap.size/\lb<w.heap.size/\fb<w.heap.size)(E:∀W r' l',oN cb lb w W->Bo cb lb fb r' l' W->∀(i:Nat) (t:nM TL×Bool),ts[i]? =U t->jV jI 250 #[nk nI (i:Nat),nA (U (Z tb 0 V))] W (D8 (UK cb lb) t.1 (t.2||decide (r'.p<r'.t.size)) W))(hval:∀t,t∈ts->∀W r' l' ou cu,oN cb lb w W->Bo cb lb fb r' l' W->oh.nX W (UK cb lb) (ny ou t.1.sub.length cu) t.1.sub->jV jI 211 #[nD #[Bl cb,Da cb,Dz cb,Ci cb,Bn fb,nA (U (Z lb 0 V))],nD #[nk nI t.1.lab.kind,nk nI t.1.lab.size,ny ou t.1.sub.length cu,nk nI t.1.lab.tail]] W (NC cb lb fb (f t.1 r' l') W))(I:∀t r l,r.t.size<=100000->(f t r l).1.lab.text.length<=j3):
  jV jI 249 #[nD #[Bl cb,Da cb,Dz cb,Ci cb,Bn fb,nA (U (Z lb 0 V))],nk nI (ts.length:Nat),.func (.func 250) #[] #[nA (U (Z tb 0 V))]] w (a2I cb lb fb (qI f ts r l) w):=by
 obtain⟨g,hg⟩:=nV w.heap.size;have A:jX (∀W,((w.alloc (nH #[Bl cb,Da cb,Dz cb,Ci cb,Bn fb,nA (U (Z lb 0 V))] EZ)).alloc (nH #[nz ⟨#[]⟩,nC false,ny V 0 0] IT)).alloc (nH #[nz ⟨#[]⟩,nC true,ny V 0 0] IT)=W->UL g cb lb fb r l w V 0 [] W):=jH λW hW=>by
  exact XW
 have HOF:=jH E;have a4f:=jH hval;have HTX:=jH I;obtain⟨n,C⟩:=nV ts.length;have HN:=jH C;rw[C]at hn⊢;obtain⟨Y,N⟩:=nV (qI f ts r l);have aa:=jH N;rw[N];clear hI E hval I C O N;unfold Bl Da Dz Ci Bn at A;unfold Bl Da Dz Ci Bn;go_in;go_upto_region 2 with fail;have J:=A.out _ rfl;generalize ((w.alloc _).alloc _).alloc _=w1 at*;have Q:=jH J;clear A J;go_wp2_with fail;go_loopw [13] (λkv ae=>∃(k:Nat) (r':RS) (l':Nat) (xo:Option lH) (xc:Nat) (L:List (qg IL)),kv=nk nI k/\k<=n/\jX (UL g cb lb fb r' l' w xo xc L ae/\L.length=k/\Y=(L.map qg.tree++(qI f (ts.drop k) r' l').1,(qI f (ts.drop k) r' l').2))) (λkv _=>n -(kT kv).toNat);case atStart=>exact⟨0,r,l,V,0,[],rfl,nL,jH ⟨Q.out,rfl,by rw[<-aa.out];simp⟩⟩
 case round=>
  exact a2J
theorem UN(cb lb fb tb rb:Nat)(r:RS)(l:Nat)(ts:List (nM TL×Bool))(f:nM TL->RS->Nat->RdV)(w:jJ)(hI:Bo cb lb fb r l w)(hn:ts.length<=65536)(O:cb<w.heap.size/\lb<w.heap.size/\fb<w.heap.size)(E:∀W r' l',oN cb lb w W->Bo cb lb fb r' l' W->∀(i:Nat) (t:nM TL×Bool),ts[i]? =U t->jV jI 251 #[nk nI (i:Nat),nA (U (Z tb 0 V)),nA (U (Z rb 0 V))] W (D8 (UK cb lb) t.1 (t.2||decide (r'.p<r'.t.size)) W))(hval:∀t,t∈ts->∀W r' l' ou cu,oN cb lb w W->Bo cb lb fb r' l' W->oh.nX W (UK cb lb) (ny ou t.1.sub.length cu) t.1.sub->jV jI 211 #[nD #[Bl cb,Da cb,Dz cb,Ci cb,Bn fb,nA (U (Z lb 0 V))],nD #[nk nI t.1.lab.kind,nk nI t.1.lab.size,ny ou t.1.sub.length cu,nk nI t.1.lab.tail]] W (NC cb lb fb (f t.1 r' l') W))(I:∀t r l,r.t.size<=100000->(f t r l).1.lab.text.length<=j3):
  jV jI 249 #[nD #[Bl cb,Da cb,Dz cb,Ci cb,Bn fb,nA (U (Z lb 0 V))],nk nI (ts.length:Nat),.func (.func 251) #[] #[nA (U (Z tb 0 V)),nA (U (Z rb 0 V))]] w (a2I cb lb fb (qI f ts r l) w):=by
 obtain⟨g,hg⟩:=nV w.heap.size;have A:jX (∀W,((w.alloc (nH #[Bl cb,Da cb,Dz cb,Ci cb,Bn fb,nA (U (Z lb 0 V))] EZ)).alloc (nH #[nz ⟨#[]⟩,nC false,ny V 0 0] IT)).alloc (nH #[nz ⟨#[]⟩,nC true,ny V 0 0] IT)=W->UL g cb lb fb r l w V 0 [] W):=jH λW hW=>by
  exact XW
 have HOF:=jH E;have a4f:=jH hval;have HTX:=jH I;obtain⟨n,C⟩:=nV ts.length;have HN:=jH C;rw[C]at hn⊢;obtain⟨Y,N⟩:=nV (qI f ts r l);have aa:=jH N;rw[N];clear hI E hval I C O N;unfold Bl Da Dz Ci Bn at A;unfold Bl Da Dz Ci Bn;go_in;go_upto_region 2 with fail;have J:=A.out _ rfl;generalize ((w.alloc _).alloc _).alloc _=w1 at*;have Q:=jH J;clear A J;go_wp2_with fail;go_loopw [13] (λkv ae=>∃(k:Nat) (r':RS) (l':Nat) (xo:Option lH) (xc:Nat) (L:List (qg IL)),kv=nk nI k/\k<=n/\jX (UL g cb lb fb r' l' w xo xc L ae/\L.length=k/\Y=(L.map qg.tree++(qI f (ts.drop k) r' l').1,(qI f (ts.drop k) r' l').2))) (λkv _=>n -(kT kv).toNat);case atStart=>exact⟨0,r,l,V,0,[],rfl,nL,jH ⟨Q.out,rfl,by rw[<-aa.out];simp⟩⟩
 case round=>
  exact a2J
structure EL(g cb lb fb:Nat)(r:RS)(l:Nat)(k z:Int)(ou:Option lH)(nu cu:Nat)(tl:Int)(s:List (nM TL))(w0:jJ)(rc:Array jP)(W:jJ):Prop where
 ly:Bo cb lb fb r l W
 rb:nP W g (EJ cb lb fb) EZ
 tb:nP W (g+1) #[nk nI k,nk nI z,ny ou nu cu,nk nI tl] rU
 rs:nP W (g+2) rc IT
 sub:oh.nX W (λc=>UK cb lb c/\c<g) (ny ou nu cu) s
 up:oN cb lb w0 W
 lt:cb<g/\lb<g/\fb<g/\w0.heap.size=g/\0<g
def AZ:Array jP:=#[nz ⟨#[]⟩,nC false,ny V 0 0]
section
variable {g cb lb fb:Nat}{r r':RS}{l l':Nat}{k z:Int}{ou:Option lH}{nu cu:Nat}{tl:Int}{s:List (nM TL)}{w0 W W':jJ}{rc:Array jP}
theorem EL.Qf(h:EL g cb lb fb r l k z ou nu cu tl s w0 rc W)(hl:Bo cb lb fb r' l' W')(A:oN cb lb W W'):EL g cb lb fb r' l' k z ou nu cu tl s w0 rc W':=by
 have h1:=h.lt;exact⟨hl,A.blk h.rb nL nL,A.blk h.tb nL nL,A.blk h.rs nL nL,Shape.nX.keep h.sub A.size (λ_ _ h=>h) λc hc C=>A.block c hc C.1.1 C.1.2,h.up.trans A,h.lt⟩
theorem EL.below(h:EL g cb lb fb r l k z ou nu cu tl s w0 rc W)(hb:jS W.heap.size W W'):EL g cb lb fb r l k z ou nu cu tl s w0 rc W':=h.Qf (h.ly.below hb) (oN.of hb)
theorem EL.turn(h:EL g cb lb fb r l k z ou nu cu tl s w0 rc W)(A:pE cb W W')(C:vW W' cb r')(hk:RdK r r'):EL g cb lb fb r' l k z ou nu cu tl s w0 rc W':=
 h.Qf (h.ly.turn A C ⟨hk.ok h.ly.ok.1.1,by rw[hk.t];exact h.ly.ok.1.2⟩) (xz A)
theorem EL.Bv(h:EL g cb lb fb r l k z ou nu cu tl s w0 rc W)(m:Nat)(A:m<=1024):EL g cb lb fb r m k z ou nu cu tl s w0 rc (W.setCell (Z lb 0 V) (nk nI (m:Nat))):=h.Qf (h.ly.Bv m A) ((oN.refl cb lb W).OJ 0 _)
theorem EL.put(h:EL g cb lb fb r l k z ou nu cu tl s w0 AZ W)(a b c:jP):EL g cb lb fb r l k z ou nu cu tl s w0 #[a,b,c] (pM W (g+2) a b c):=by
 have h1:=h.lt;have hh:∀d,d≠g+2->(pM W (g+2) a b c).heap[d]? =W.heap[d]? :=λd hd=>by simp[pM,kz,lu,Ne.symm hd]
 have hs:(pM W (g+2) a b c).heap.size=W.heap.size:=by simp[pM,kz]
 have o:∀{d:Nat}{cs:Array jP}{t:ko},nP W d cs t->d≠g+2->nP (pM W (g+2) a b c) d cs t:=λh hn=>by unfold nP at*;rw[hh _ hn];exact h
 have A:=h.ly;have key:∀i,(pM W (g+2) a b c).cell? (Z 0 i V)=W.cell? (Z 0 i V):=λi=>by
  simp only[mI,hh 0 nL]
 refine⟨⟨o A.rd nL,A.ok,o A.lf nL,o A.fr nL,⟨(key 0).trans A.tab.a,(key 1).trans A.tab.b,(key 2).trans A.tab.c⟩,A.ne⟩,o h.rb nL,o h.tb nL,((h.rs.set 0 a).set 1 b).set 2 c,?_,?_,h.lt⟩;.exact Shape.nX.keep h.sub (mR hs.symm) (λ_ _ h=>h) λc _ C=>hh c (by have:=C.2;omega)
 .exact⟨h.up.os,h.up.tape,h.up.output,by rw[hs];exact h.up.size,λd hd hb C=>(hh d nL).trans (h.up.block d hd hb C)⟩
theorem EL.drew(h:EL g cb lb fb r l k z ou nu cu tl s w0 rc W):EL g cb lb fb r l k z ou nu cu tl s w0 rc W.drew:=h.below (oC W)
end
theorem a1l(s:ByteArray)(w:jJ):jV jI 93 #[nz s] w λe w'=>∃er:Int,e=nG (nE #[nk nJ (Gz s),nk nI er])/\w=w':=by
 unfold Gz;by_cases h0:s.size=0
 .rw[if_neg nL]
  exact(wH s w h0).mono λe w' h=>⟨1,h⟩
 .by_cases A:s.size<=8
  .rw[if_pos nL]
   exact(sV s w nL A).mono λe w' h=>⟨0,h⟩
  .rw[if_neg nL]
   exact(BD s w nL).mono λe w' h=>⟨5,h⟩
theorem a4h(b:ByteArray):(⟨b.data.toList.toArray⟩:ByteArray)=b:=by cases b;simp
noncomputable def Fu:List lY:=cO (cL (cL (cR (cR (cR (cR (cR (cL (cR (cL (cR (cR (cR (cB Tryz.f211))))))))))))))
section
variable (g cb lb fb:Nat)(r r1 r2:RS)(l:Nat)(k:Int)(m n1:Nat)(T:ByteArray)(ou:Option lH)(nu cu:Nat)(tl:Int)(s:List (nM TL))(w0:jJ)
def tK:Nat->jP
 |0=> nA (U (Z g 0 V))
 |1=>Bl cb
 |2=> nA (U (Z g 4 V))
 |3=>Bn fb
 |4=> nA (U (Z (g+1) 1 V))
 |5=> nk nI m
 |6=> nk nI n1
 |7=> nz T
 |8=> nD #[nz T,nC false,ny V 0 0]
 |_=>kI
structure XX(D:Nat->Bool)(vs:Nat->jP)(w:jJ):Prop where
 oH:EL g cb lb fb (if(D 7)=true then r2 else if(D 6)=true then r1 else r) l k m ou nu cu tl s w0 (if(D 9)=true then#[nz T,nC false,ny V 0 0]else AZ) w
 val:∀j,(true)=true->D j=true->vs j=tK g cb fb m n1 T j
variable {g cb lb fb r r1 r2 l k m n1 T ou nu cu tl s w0}
theorem XY{D:Nat->Bool}{vs:Nat->jP}{w w':jJ}(h:XX g cb lb fb r r1 r2 l k m n1 T ou nu cu tl s w0 D vs w){i:Nat}(hi:i≠6/\i≠7/\i≠9)(A:EL g cb lb fb (if(D 7)=true then r2 else if(D 6)=true then r1 else r) l k m ou nu cu tl s w0 (if(D 9)=true then#[nz T,nC false,ny V 0 0]else AZ) w->EL g cb lb fb (if(D 7)=true then r2 else if(D 6)=true then r1 else r) l k m ou nu cu tl s w0 (if(D 9)=true then#[nz T,nC false,ny V 0 0]else AZ) w'):XX g cb lb fb r r1 r2 l k m n1 T ou nu cu tl s w0 (zm D i) (zn vs i (tK g cb fb m n1 T i)) w':=by
 refine⟨?_,uK h.val⟩;rw[nR D (show 6≠i by omega)];rw[nR D (show 7≠i by omega)];rw[nR D (show 9≠i by omega)];exact A h.oH
theorem a1m{id:Nat}{Q:Exit->Act->jJ->Prop}{a0:Act}{af:jJ}(ht2:a0.tmps.getD 2 kI=nA (U (Z g 0 V)))(ht3:a0.tmps.getD 3 kI=nA (U (Z (g+1) 0 V)))(Ec:∀W,Bo cb lb fb r l W->jV jI 209 #[nk nI m,nA (U (Z fb 0 V))] W λe w'=>e=nG (nk nI n1)/\Bo cb lb fb r1 l w'/\pE cb W w')(htake:∀W,vW W cb r1->jV jI 145 #[nA (U (Z cb 0 V)),nk nI n1] W (zx cb W r2 (nz T)))(hk2:RdK r1 r2)(EU:a0.tmps.getD 4 kI=nA (U (Z (g+2) 0 V)))(hsz:a0.tmps.size=74)(hI0:∀vs:Nat->jP,(λw=>EL g cb lb fb (if false=true then r2 else if false=true then r1 else r) l k m ou nu cu tl s w0 (if false=true then#[nz T,nC false,ny V 0 0]else AZ) w) af.drew)(ag:∀(vs:Nat->jP) (w:jJ),EL g cb lb fb (if true=true then r2 else if true=true then r1 else r) l k m ou nu cu tl s w0 (if true=true then#[nz T,nC false,ny V 0 0]else AZ) w->Q .normal {a0 with tmps:=(((((((((a0.tmps.setIfInBounds 48 (nA (U (Z g 0 V)))).setIfInBounds 49 (Bl cb)).setIfInBounds 50 (nA (U (Z g 4 V)))).setIfInBounds 51 (Bn fb)).setIfInBounds 52 (nA (U (Z (g+1) 1 V)))).setIfInBounds 53 (nk nI m)).setIfInBounds 54 (nk nI n1)).setIfInBounds 55 (nz T)).setIfInBounds 56 (nD #[nz T,nC false,ny V 0 0]))} w):
  (ll id Fu.toArray true).wp jI Q a0 af:=by
 refine og 10 74 (XX g cb lb fb r r1 r2 l k m n1 T ou nu cu tl s w0) nN hsz nN (.inl rfl) nN ?_ ?_ ?_;.exact qB
 .refine rM λA az=> ?_
  clear hI0 ag hsz;replace ht2:=jH ht2;replace ht3:=jH ht3;replace Ec:=jH Ec;replace htake:=jH htake;replace hk2:=jH hk2;replace EU:=jH EU;dsimp+instances only[Fu,cO,cL,cR,cB,Tryz.f211];simp only[ky,kL,qW];refine⟨?_,?_,?_,?_,?_,?_,?_,?_,?_,?_,trivial⟩<;>(intro D vs a w K hI hd E hw2 C J;subst az;dsimp+instances only[Fu,cO,cL,cR,cB,Tryz.f211]);have e2:=(C 2 nO).trans ht2.out;rotate_left;have ah:=fe C hI.val E 48 0;simp only[tK]at ah;have hB:=hI.oH.rb;have c0:=hB.cell 0;simp only[EJ,jO,jN,jM]at c0;clear hB;rotate_left;have e2:=(C 2 nO).trans ht2.out;rotate_left;have ai:=fe C hI.val E 50 2;simp only[tK]at ai;have hB:=hI.oH.rb;have c0:=hB.cell 4;simp only[EJ,jO,jN,jM]at c0;clear hB;rotate_left;have e3:=(C 3 nO).trans ht3.out;rotate_left;have aj:=fe C hI.val E 52 4;simp only[tK]at aj;have hB:=hI.oH.tb;have c0:=hB.c1;clear hB;rotate_left
  .have Ec:=Ec.out
   have O:=fe C hI.val E 51 3;have ak:=fe C hI.val E 53 5;simp only[tK]at O ak;have I:=hI.oH;rw[hd,hw2 7 nO nN,hw2 9 nO nN]at I;have aA:=Ec w I.ly;clear Ec;unfold Bn at O;rw[if_pos (by rfl)];go_simp;refine aA.mono ?_;rintro e au ⟨rfl,hl,aa⟩;refine J (tK g cb fb m n1 T 6) _ _ rfl ⟨?_,uK hI.val⟩;rw[oo,nR D (show 7≠6 by decide),nR D (show 9≠6 by decide),hw2 7 nO nN,hw2 9 nO nN];exact I.Qf hl (xz aa)
  .have htake:=htake.out
   have hk2:=hk2.out;have Y:=fe C hI.val E 49 1;have av:=fe C hI.val E 54 6;simp only[tK]at Y av;have I:=hI.oH;rw[hd,E 6 nO nN,hw2 9 nO nN]at I;have ae:=htake w I.ly.rd;clear htake;unfold Bl at Y;rw[if_pos (by rfl)];go_simp;refine ae.mono ?_;rintro e au ⟨rfl,aa,aB⟩;refine J (tK g cb fb m n1 T 7) _ _ rfl ⟨?_,uK hI.val⟩;rw[oo,nR D (show 6≠7 by decide),nR D (show 9≠7 by decide),hw2 9 nO nN];exact I.turn aa aB hk2
  .have ax:=fe C hI.val E 55 7
   simp only[tK]at ax;have ae:=D7 T w;rw[if_pos (by rfl)];go_simp;refine ae.mono ?_;rintro e au ⟨rfl,hb⟩;exact J (tK g cb fb m n1 T 8) _ _ rfl (XY hI (i:=8) nO λh=>h.below hb)
  .have e4:=(C 4 nO).trans EU.out
   have ay:=fe C hI.val E 56 8;simp only[tK]at ay;have I:=hI.oH;rw[hd,E 7 nO nN]at I;have hB:=I.rs;have z0:=hB.cell 0;have aC:=hB.cell 1;have aD:=hB.cell 2;obtain⟨aF,f1,f2⟩:=hB.f3;simp only[AZ,lV,if_false,jO,jN,jM]at z0 aC aD;clear hB;go_simp;rw[qb];refine J kI _ _ rfl ⟨?_,uK hI.val⟩;rw[oo,nR D (show 6≠9 by decide),nR D (show 7≠9 by decide),E 7 nO nN];exact EL.put I _ _ _
  all_goals
   go_simp;exact J _ _ _ rfl ⟨hI.oH,uK hI.val⟩
 .intro D vs w N hI
  have E:=hI.oH;rw[N 6 nO]at E;rw[N 7 nO]at E;rw[N 9 nO]at E;have q:=ag vs w E;rw[oW hI.val N];dsimp+instances only[Fu,cO,cL,cR,cB,Tryz.f211];exact qH
end
theorem vK(w:jJ)(Q:Nat->Prop):nW w Q (ny V 0 0) []:=⟨V,0,rfl,jK _,kH _,λh=>absurd h nS⟩
theorem Sc(r:RS)(n:Int):(r.take n).2.size<=r.t.size:=by
 unfold RS.take;split
 .split
  .exact kH _
  .split
   .exact kH _
   .simp only[kC];omega
 .exact kH _
theorem GV:∀(d:Nat)(t:nM TL)(r:RS)(l:Nat),r.t.size<=100000->(qf d t r l).1.lab.text.length<=j3
 |0,t,r,l,h=>by show([]:List UInt8).length<=j3;decide
 |d+1,.node a s,r,l,h=>by
  have A:(100000:Nat)<=j3:=nO;have ht:∀b:ByteArray,b.size<=100000->(yc b).lab.text.length<=j3:=λb hb=>by
   show b.data.toList.length<=j3;have:b.data.toList.length=b.size:=nS;omega
  have h0:(yc ⟨#[]⟩).lab.text.length<=j3:=nO;unfold qf;split;.exact h0
  .split
   .show(BB _).reverse.length<=j3
    have:=DC 8 _ (kG (RV (r.take a.size).2) nO);rw[List.length_reverse];omega
   .split
    .exact ht _ (jY (Sc _ _) h)
    .split
     .exact ht _ (jY (Sc _ _) (by rw[Xq];exact h))
     .split
      .cases s with
       |nil=>exact h0
       |cons t ts=>show([]:List UInt8).length<=j3;decide
      .show([]:List UInt8).length<=j3;decide
theorem a1n(d:Nat)(a:TL)(s:List (nM TL))(r:RS):qf (d+1) (.node a s) r 0=(yc ⟨#[]⟩,r.fail 4,0):=by unfold qf;rw[if_pos rfl]
theorem a1o(d m:Nat)(a:TL)(s:List (nM TL))(r:RS)(h:a.kind=1):qf (d+1) (.node a s) r (m+1)=(KE (Gz (r.take a.size).2),(r.take a.size).1,m):=by unfold qf;rw[if_neg nL,if_pos h];rfl
theorem a1p(d m:Nat)(a:TL)(s:List (nM TL))(r:RS)(h:a.kind=2):qf (d+1) (.node a s) r (m+1)=(yc (r.take a.size).2,(r.take a.size).1,m):=by unfold qf;rw[if_neg nL,if_neg nL,if_pos h];rfl
theorem a1q(d m:Nat)(a:TL)(s:List (nM TL))(r:RS)(h:a.kind=3):qf (d+1) (.node a s) r (m+1)=(yc ((r.comp a.size.toNat).1.take (r.comp a.size.toNat).2).2,((r.comp a.size.toNat).1.take (r.comp a.size.toNat).2).1,m):=by
 unfold qf;rw[if_neg nL,if_neg nL,if_neg nL,if_pos h];rfl
theorem a1r(d m:Nat)(a:TL)(t:nM TL)(r:RS)(h:a.kind=4):qf (d+1) (.node a [t]) r (m+1)=(Ji (qI (qf d) (lh (r.comp a.size.toNat).2 (t,true)) (r.comp a.size.toNat).1 m).1,(qI (qf d) (lh (r.comp a.size.toNat).2 (t,true)) (r.comp a.size.toNat).1 m).2):=by
 unfold qf;rw[if_neg nL,if_neg nL,if_neg nL,if_neg nL,if_pos h];rfl
theorem a1s(d m:Nat)(a:TL)(s:List (nM TL))(r:RS)(h:a.kind=5):qf (d+1) (.node a s) r (m+1)=(Ji (qI (qf d) (za s a.tail) r m).1,(qI (qf d) (za s a.tail) r m).2):=by
 unfold qf;rw[if_neg nL,if_neg nL,if_neg nL,if_neg nL,if_neg nL];rfl
theorem zX{g cb lb fb:Nat}{r:RS}{l:Nat}{k z:Int}{ou:Option lH}{nu cu:Nat}{tl:Int}{s:List (nM TL)}{w0 W:jJ}{a b c:jP}(h:EL g cb lb fb r l k z ou nu cu tl s w0 #[a,b,c] W):
  (W.cell? (Z (g+2) 0 V)=U a/\W.cell? (Z (g+2) 1 V)=U b/\W.cell? (Z (g+2) 2 V)=U c)/\W.frozen? (Z (g+2) 0 V)=false/\W.frozen? (Z (g+2) 1 V)=false/\W.frozen? (Z (g+2) 2 V)=false:=
 ⟨⟨h.rs.cell 0,h.rs.cell 1,h.rs.cell 2⟩,h.rs.free 0,h.rs.free 1,h.rs.free 2⟩
theorem a1t(r:RS)(m:Nat)(A:m<=65536):(r.comp m).2<=65536:=by
 by_cases hf:(r.comp m).1.f=0;.have:=Jj hf;omega
 .exact Xz
theorem XZ(h:p:=by
 have a88:=jH hs;clear hl hu hs CL;dsimp only at*;obtain⟨⟨y0,y1,y2⟩,f0,f1,f2⟩:=zX Sd.out;go_wp2_with fail;rw[qb];have hF:=Sd.put (nz ⟨#[]⟩) (nC true) (ny ov ys.length cv);obtain⟨⟨d0,d1,d2⟩,_⟩:=zX hF;refine jZ (v:=nD #[nz ⟨#[]⟩,nC true,ny ov ys.length cv]) (by simp[kQ,Tryz.results211,go_sem,d0,d1,d2]) rfl ?_;rw[HYE.out];refine⟨ov,cv,rfl,hF.ly,?_,hF.up⟩;refine Shape.nX.keep a88 (by simp[pM,kz]) (λc _ hc=>by have:=HS.out c hc;show w.heap.size<=c;omega) λc _ hc=> ?_
 have:=HS.out c hc;simp[pM,kz,lu,show g+2≠c by omega,show¬g+2=c by omega]):p:=h
theorem X0(h:p:=by
 obtain⟨⟨d0,d1,d2⟩,_⟩:=zX hF;refine jZ (v:=nD #[nz T,nC false,ny V 0 0]) (by simp[kQ,Tryz.results211,go_sem,d0,d1,d2]) rfl ?_;rw[HYE.out];exact⟨V,0,by show _=lJ (nD #[nz (⟨T.data.toList.toArray⟩:ByteArray),nC false,ny V 0 0]);rw[a4h],hF.ly,vK _ _,hF.up⟩):p:=h
theorem UO:∀(d:Nat)(t:nM TL)(cb lb fb:Nat)(r:RS)(l:Nat)(w:jJ)(ou:Option lH)(cu:Nat),t.deep<=d->t.all oK=true->Bo cb lb fb r l w->(cb<w.heap.size/\lb<w.heap.size/\fb<w.heap.size)->oh.nX w (UK cb lb) (ny ou t.sub.length cu) t.sub->
  jV jI 211 #[nD #[Bl cb,Da cb,Dz cb,Ci cb,Bn fb,nA (U (Z lb 0 V))],nD #[nk nI t.lab.kind,nk nI t.lab.size,ny ou t.sub.length cu,nk nI t.lab.tail]] w (NC cb lb fb (qf d t r l) w):=by
 intro d;induction d with
 |zero=>intro t cb lb fb r l w ou cu hd;exact absurd (nM.WG t) nL
 |succ d aV=>
  intro t cb lb fb r l w ou cu hd I hI aG ai;obtain⟨⟨k,z,tl⟩,s⟩:=t;simp only[nM.oZ,nM.qx]at*;have aH:nM.o9 s<=d:=by simp only[nM.deep]at hd;omega
  simp only[nM.all,j4]at I;obtain⟨aI,aJ⟩:=I;unfold oK qA at aI;simp only[decide_eq_true_eq]at aI;obtain⟨g,hg⟩:=nV w.heap.size;have bJ:∀(fn:Fn)(first cap:Array jP)(w:jJ),(mJ fn first cap).run jI w=.ok (.func fn first cap) w:=λ_ _ _ _=>rfl
  obtain⟨n,hn⟩:=nV s.length;have aj:jX (∀W,((w.alloc (nH #[Bl cb,Da cb,Dz cb,Ci cb,Bn fb,nA (U (Z lb 0 V))] EZ)).alloc (nH #[nk nI k,nk nI z,ny ou n cu,nk nI tl] rU)).alloc (nH #[nz ⟨#[]⟩,nC false,ny V 0 0] IT)=W->EL g cb lb fb r l k z ou n cu tl s w AZ W):=jH λW bC=>by
   subst bC;have a1:=(jT w.heap.size w).alloc (jK _) (nH (EJ cb lb fb) EZ);have a2:=a1.alloc nS (nH #[nk nI k,nk nI z,ny ou n cu,nk nI tl] rU);have a3:=a2.alloc nT (nH #[nz ⟨#[]⟩,nC false,ny V 0 0] IT);have aW:=nP.new w (EJ cb lb fb) EZ;have aX:=nP.new (w.alloc (nH (EJ cb lb fb) EZ)) #[nk nI k,nk nI z,ny ou n cu,nk nI tl] rU;have aY:=nP.new ((w.alloc (nH (EJ cb lb fb) EZ)).alloc (nH #[nk nI k,nk nI z,ny ou n cu,nk nI tl] rU)) #[nz ⟨#[]⟩,nC false,ny V 0 0] IT;rw[show(w.alloc (nH (EJ cb lb fb) EZ)).heap.size=g+1 by simp[hg]]at aX;rw[show((w.alloc (nH (EJ cb lb fb) EZ)).alloc (nH #[nk nI k,nk nI z,ny ou n cu,nk nI tl] rU)).heap.size=g+2 by simp[hg]]at aY;rw[hg]at aW;rw[hn]at ai;exact⟨hI.below a3,(aW.alloc _).alloc _,aX.alloc _,aY,Shape.nX.keep ai a3.size (λc hc ae=>⟨ae,hg▸hc⟩) λc hc _=>a3.block c hc,oN.of a3,⟨nL,nL,nL,hg,hg▸hI.tab.lt⟩⟩
  obtain⟨aK,aT⟩:∃aK,qf (d+1) (.node ⟨k,z,tl⟩ s) r l=aK:=⟨_,rfl⟩;have J:=jH aT;rw[aT,hn];have af:=jH aV;have aL:=jH aJ;have aM:=jH aH;have aZ:=jH hn;have bK:=jH aG;have aN:=jH (λW I=>tZ cb r 4 W I);have bL:=hI.ok.2;clear hI ai aT aV hd aJ aH aG;unfold Bl Da Dz Ci Bn at aj;unfold Bl Da Dz Ci Bn;obtain⟨ah,Y⟩:∃ah:Int,(l:Int)=ah:=⟨_,rfl⟩;go_in;go_upto_region 1 with fail;have Q:=aj.out _ rfl;generalize ((w.alloc _).alloc _).alloc _=w1 at*;have aa:=jH Q;have c5:w1.cell? (Z g 5 V)=U (nA (U (Z lb 0 V))):=Q.rb.cell 5;have c1:w1.cell? (Z g 1 V)=U (Da cb):=Q.rb.cell 1;have cl:w1.cell? (Z lb 0 V)=U (nk nI ah):=Y▸Q.ly.lf.cell 0;have bD:=Q.ly.lf.free 0;unfold Da at c1;clear aj Q;cases l with
  |zero=>
   have t0:decide (ah<=0)=true:=by rw[<-Y];rfl
   have HYE:jX (aK=(yc ⟨#[]⟩,r.fail 4,0)):=jH (by rw[<-J.out];exact a1n _ _ _ _);clear Y J;go_wp2_with fail;refine(aN _ aa.ly.rd).mono ?_;rintro e w2 ⟨rfl,hu,I⟩;have A:=jH (aa.turn hu I (Xr r 4));clear hu I aa;obtain⟨⟨y0,y1,y2⟩,f0,f1,f2⟩:=zX A.out;go_wp2_with fail;rw[qb];have hF:=A.put (nz ⟨#[]⟩) (nC false) (ny V 0 0);obtain⟨⟨d0,d1,d2⟩,_⟩:=zX hF;refine jZ (v:=nD #[nz ⟨#[]⟩,nC false,ny V 0 0]) (by simp[kQ,Tryz.results211,go_sem,d0,d1,d2]) rfl ?_;rw[HYE.out];exact⟨V,0,rfl,hF.ly,vK _ _,hF.up⟩
  |succ m=>
   have t0:decide (ah<=0)=false:=by rw[<-Y];simp
   have bg:IntKind.i64.wrap (ah - 1)=(m:Int):=by rw[IntWalk.i64_in _ nL];omega
   clear Y;go_upto_region 5 with fail;have aO:=aa.Bv m nL;generalize w1.setCell _ _=w2 at*;have A:=jH aO;clear aO aa t0 bg c5 c1 cl bD aN;have b0:w2.cell? (Z g 0 V)=U (Bl cb):=A.rb.cell 0;have b4:w2.cell? (Z g 4 V)=U (Bn fb):=A.rb.cell 4;have a0:w2.cell? (Z (g+1) 0 V)=U (nk nI k):=A.tb.cell 0;have a1:w2.cell? (Z (g+1) 1 V)=U (nk nI z):=A.tb.cell 1;unfold Bl at b0;unfold Bn at b4;have hk:k=1\/k=2\/k=3\/k=4\/k=5:=nL;rcases hk with rfl|rfl|rfl|rfl|rfl
   .have HYE:jX (aK=(KE (Gz (r.take z).2),(r.take z).1,m)):=jH (by rw[<-J.out];exact a1o _ _ _ _ _ rfl)
    have ak:=jH (λW I=>qj cb r z W A.ly.ok.1.1 I);have au:=jH (GA r z);have bq:=jH (RV (r.take z).2);clear J;go_wp2_with fail;refine(ak _ A.ly.rd).mono ?_;rintro e w3 ⟨rfl,hu,I⟩;have C:=jH (A.turn hu I au);clear hu I A ak au b0 b4 a0 a1;generalize r.take z=y at*;obtain⟨r2,T⟩:=y;dsimp only at*;have bu:=jH (a1l T);go_wp2_with fail;refine(bu _).mono ?_;rintro e w4 ⟨er,rfl,rfl⟩;have av:=jH (λW=>KH (Gz T) W ⟨(BB (Gz T)).reverse.toArray⟩ λbE=>Jg (Gz T) bE bq);clear bu;generalize Gz T=bF at*;go_wp2_with fail;refine(av _).mono ?_;rintro e w5 ⟨rfl,hb⟩;have Sd:=jH (C.below hb);clear hb C av;obtain⟨aD,ax⟩:∃aD,(⟨(BB bF).reverse.toArray⟩:ByteArray)=aD:=⟨_,rfl⟩;rw[ax];have aP:=jH ax;clear ax;obtain⟨⟨y0,y1,y2⟩,f0,f1,f2⟩:=zX Sd.out;go_wp2_with fail;rw[qb];have hF:=Sd.put (nz aD) (nC false) (ny V 0 0);obtain⟨⟨d0,d1,d2⟩,_⟩:=zX hF;refine jZ (v:=nD #[nz aD,nC false,ny V 0 0]) (by simp[kQ,Tryz.results211,go_sem,d0,d1,d2]) rfl ?_;rw[HYE.out];rw[<-aP.out];rw[<-aP.out]at hF;exact⟨V,0,rfl,hF.ly,vK _ _,hF.up⟩
   .have HYE:jX (aK=(yc (r.take z).2,(r.take z).1,m)):=jH (by rw[<-J.out];exact a1p _ _ _ _ _ rfl)
    have ak:=jH (λW I=>qj cb r z W A.ly.ok.1.1 I);have au:=jH (GA r z);clear J;go_wp2_with fail;refine(ak _ A.ly.rd).mono ?_;rintro e w3 ⟨rfl,hu,I⟩;have C:=jH (A.turn hu I au);clear hu I A ak au b0 b4 a0 a1;generalize r.take z=y at*;obtain⟨r2,T⟩:=y;dsimp only at*;have av:=jH (D7 T);go_wp2_with fail;refine(av _).mono ?_;rintro e w5 ⟨rfl,hb⟩;have Sd:=jH (C.below hb);clear hb C av;obtain⟨⟨y0,y1,y2⟩,f0,f1,f2⟩:=zX Sd.out;go_wp2_with fail;rw[qb];have hF:=Sd.put (nz T) (nC false) (ny V 0 0);exact X0
   .obtain⟨E,rfl⟩:∃E:Nat,z=E:=⟨z.toNat,nL⟩
    have HYE:jX (aK=(yc ((r.comp E).1.take (r.comp E).2).2,((r.comp E).1.take (r.comp E).2).1,m)):=jH (by rw[<-J.out];exact a1q _ _ _ _ _ rfl);have Ec:=λW h=>GJ cb lb fb m r E W h nL
    have htake:=λW I=>qj cb (r.comp E).1 (r.comp E).2 W (A.ly.ok.1.1.comp E) I
    have hk2:=GA (r.comp E).1 (r.comp E).2;clear J b0 b4 a0 a1;generalize r.comp E=y1 at*;obtain⟨r1,n1⟩:=y1;dsimp only at*;generalize r1.take n1=y at*;obtain⟨r2,T⟩:=y;dsimp only at*;have N:=jH Ec;have ag:=jH htake;have aQ:=jH hk2;clear Ec htake hk2;have a0:w2.cell? (Z (g+1) 0 V)=U (nk nI 3):=A.tb.cell 0;go_upto_region 12 with fail;refine a1m (g:=g) (cb:=cb) (lb:=lb) (fb:=fb) (r:=r) (r1:=r1) (r2:=r2) (l:=m) (k:=3) (m:=E) (n1:=n1) (T:=T) (ou:=ou) (nu:=n) (cu:=cu) (tl:=tl) (s:=s) (w0:=w) (ht2:=by rfl) (ht3:=by rfl) (EU:=by rfl) (hsz:=by rfl) (Ec:=N.out) (htake:=ag.out) (hk2:=aQ.out) (hI0:=λ_=>A.drew) ?_;intro vs W hF;simp only[if_true]at hF;simp only[jL,jQ,jR];have bG:=jH hF;clear hF A N ag aQ a0;go_wp2_with fail;have hF:=bG.out;exact X0
   .have aR:s.length=1:=nL
    obtain⟨O,rfl⟩:=List.length_eq_one_iff.1 aR;clear aR;obtain⟨E,rfl⟩:∃E:Nat,z=E:=⟨z.toNat,nL⟩;have HYE:jX (aK=(Ji (qI (qf d) (lh (r.comp E).2 (O,true)) (r.comp E).1 m).1,(qI (qf d) (lh (r.comp E).2 (O,true)) (r.comp E).1 m).2)):=jH (by rw[<-J.out];exact a1r _ _ _ _ _ rfl);have Ec:=λW h=>GJ cb lb fb m r E W h nL
    have N:=jH Ec;have aS:(r.comp E).2<=65536:=a1t r E nL;clear J Ec;generalize r.comp E=y1 at*;obtain⟨r1,n1⟩:=y1;dsimp only at*;have ht1:O.all oK=true/\O.deep<=d:=by
     have h1:=aL.out;have h2:=aM.out;simp only[nM.o7,Bool.and_true]at h1;simp only[nM.o9]at h2;exact⟨h1,nL⟩
    have bz:=jH aS;clear aS;go_wp2_with fail;refine(N _ A.ly).mono ?_;rintro e w3 ⟨rfl,hl,hu⟩;have C:=jH (A.Qf hl (xz hu));clear hl hu A N b0 b4 a0 a1;have aU:w3.cell? (Z g 0 V)=U (Bl cb):=C.rb.cell 0;have e1:w3.cell? (Z g 1 V)=U (Da cb):=C.rb.cell 1;have e2:w3.cell? (Z g 2 V)=U (Dz cb):=C.rb.cell 2;have e3:w3.cell? (Z g 3 V)=U (Ci cb):=C.rb.cell 3;have e4:w3.cell? (Z g 4 V)=U (Bn fb):=C.rb.cell 4;have e5:w3.cell? (Z g 5 V)=U (nA (U (Z lb 0 V))):=C.rb.cell 5;have hsz:g+3<=w3.heap.size:=C.rs.lt;have h1:=C.lt;have hlen:(lh n1 (O,true)).length=n1:=List.length_replicate
    have CL:=UM cb lb fb (g+1) 0 r1 m (lh n1 (O,true)) (qf d) w3 C.ly (by rw[hlen];exact bz) ⟨nL,nL,nL⟩
     (λW r' ay hu hl i t ht=>by
      obtain⟨_,rfl⟩:=List.mem_replicate.1 (kK ht);have hb:=hu.blk C.tb nL nL;have hs:oh.nX W (UK cb lb) (ny ou n cu) [O]:=Shape.nX.keep C.sub hu.size (λ_ _ h=>h.1) λc hc ae=>hu.block c hc ae.1.1 ae.1.2
      exact a09 (g+1) i ⟨4,E,tl⟩ O ou n cu [O] (UK cb lb) W hb hs rfl)
     (λt ht W r' ay az aA hu hl hs=>by
      obtain⟨_,rfl⟩:=List.mem_replicate.1 ht;exact af O cb lb fb r' ay W az aA ht1.2 ht1.1 hl ⟨by have:=hu.size;omega,by have:=hu.size;omega,by have:=hu.size;omega⟩ hs)
     (λt r l h=>GV d t r l h)
    rw[hlen]at CL;have CL:=jH CL;clear hlen h1 hsz af ht1;generalize qI (qf d) (lh n1 (O,true)) r1 m=y at*;obtain⟨ys,r2,l2⟩:=y;unfold Bl Da Dz Ci Bn at CL;unfold Bl at aU;unfold Da at e1;unfold Dz at e2;unfold Ci at e3;unfold Bn at e4;go_wp2_with fail;refine CL.mono ?_;rintro e w4 ⟨ov,cv,rfl,hl,hs,hu⟩;have Sd:=jH (C.Qf hl hu);have HS:jX (∀c,w3.heap.size<=c->g+3<=c):=jH λc hc=>by have:=C.rs.lt;omega
    exact XZ
   .have HYE:jX (aK=(Ji (qI (qf d) (za s tl) r m).1,(qI (qf d) (za s tl) r m).2)):=jH (by rw[<-J.out];exact a1s _ _ _ _ _ rfl)
    clear J b0 b4 a1;have aU:w2.cell? (Z g 0 V)=U (Bl cb):=A.rb.cell 0;have e1:w2.cell? (Z g 1 V)=U (Da cb):=A.rb.cell 1;have e2:w2.cell? (Z g 2 V)=U (Dz cb):=A.rb.cell 2;have e3:w2.cell? (Z g 3 V)=U (Ci cb):=A.rb.cell 3;have e4:w2.cell? (Z g 4 V)=U (Bn fb):=A.rb.cell 4;have e5:w2.cell? (Z g 5 V)=U (nA (U (Z lb 0 V))):=A.rb.cell 5;have bM:w2.cell? (Z (g+1) 2 V)=U (ny ou n cu):=A.tb.cell 2;have hsz:g+3<=w2.heap.size:=A.rs.lt;have h1:=A.lt;have hlen:(za s tl).length=n:=by simp[za,aZ.out]
    have aB:∀{k:Nat}{aF:nM TL×Bool},(za s tl)[k]? =U aF->s[k]? =U aF.1/\aF.2=decide ((k:Int)<s.length - tl):=by
     intro k aF aC;unfold za at aC;rw[List.getElem?_mapIdx]at aC;obtain⟨t0,ht0,rfl⟩:=Option.map_eq_some_iff.1 aC;exact⟨ht0,rfl⟩
    have CL:=UN cb lb fb (g+1) g r m (za s tl) (qf d) w2 A.ly (by rw[hlen];omega) ⟨nL,nL,nL⟩
     (λW r' ay hu hl i t ht=>by
      obtain⟨bH,bI⟩:=aB ht;have hb:=hu.blk A.tb nL nL;have bA:=hu.blk A.rb nL nL;have hs:oh.nX W (UK cb lb) (ny ou n cu) s:=Shape.nX.keep A.sub hu.size (λ_ _ h=>h.1) λc hc ae=>hu.block c hc ae.1.1 ae.1.2
      rw[bI];exact a1c (g+1) g cb lb fb i r' ⟨5,z,tl⟩ t.1 ou n cu s (UK cb lb) W hb bA hl.rd hl.ok.1.1 hs bH (by have:=aZ.out;omega) (by dsimp only;omega))
     (λt ht W r' ay az aA hu hl hs=>by
      obtain⟨i,hi⟩:=List.getElem?_of_mem ht;have bB:=kK (aB hi).1;exact af t.1 cb lb fb r' ay W az aA (jY (Jk bB) aM) (CQ aL bB) hl ⟨by have:=hu.size;omega,by have:=hu.size;omega,by have:=hu.size;omega⟩ hs)
     (λt r l h=>GV d t r l h)
    rw[hlen]at CL;have CL:=jH CL;clear hlen h1 hsz af aB;generalize qI (qf d) (za s tl) r m=y at*;obtain⟨ys,r2,l2⟩:=y;unfold Bl Da Dz Ci Bn at CL;unfold Bl at aU;unfold Da at e1;unfold Dz at e2;unfold Ci at e3;unfold Bn at e4;go_wp2_with fail;refine CL.mono ?_;rintro e w4 ⟨ov,cv,rfl,hl,hs,hu⟩;have Sd:=jH (A.Qf hl hu);have HS:jX (∀c,w2.heap.size<=c->g+3<=c):=jH λc hc=>by have:=A.rs.lt;omega
    exact XZ
end
end Go.Proofs.YtamfcjmhnndbdaaGreatDoor


