/- Part 0 of the proof. -/
import Derived.Test.YtamfcjmhnndbdaaGreatDoorZoA
import Derived.WalkKit
import Derived.Lib.Hide
import Derived.Handy
import Derived.Deep.QuietTactic
import Derived.Laws.IdiomStrings
import Derived.Laws.BytesArg
import Derived.BigQuiet
import Derived.StillTail
import Derived.Test.YtamfcjmhnndbdaaGreatDoorRows
import Derived.WalkSpells
import Derived.RegionTactic
import Derived.BigRegion
import Derived.ChangeAlike
import Derived.Lib.Strings
import Derived.OwnWalk
import Derived.Laws.BitsAllLaws
import Derived.Deep.AppendLies
import Derived.Lib.AppendStr
import Derived.Deep.CutBlock
import Derived.Deep.DeepCutAuto
import Derived.StillTailTactics
open Go.Value renaming bool→nH,int→Y,pointer→nG,slice→u,string→G,tuple→nJ,ownBlock→kz,int→lC
open Go.Obj renaming cells→nL
open Go.IntKind renaming i64→X,u64→nN
open Go.Ending renaming returned→nK,returned→kZ
open Go.Lib renaming hid→H,size_eq→l9,extract_data→mF
open Go.Proofs.Tryz renaming prog→jy,underlying86→lq,underlying9→lU
open Go renaming World→M,Value→jC,Calls→jG,maxLen→jN,TypeId→jX,Addr→kW,Oper→lJ,Program→lQ,wpQuiet_nil→l7
open Nat renaming le_refl→jB,le_trans→jM,lt_of_lt_of_le→jZ,zero_le→ko,add_assoc→kK,lt_or_ge→kQ,pow_succ→kV,pow_le_pow_right→lG,add_mul→lT,mul_le_mul_right→lY,zero_add→mU,two_pow_add_eq_or_of_lt→mW,add_zero→nk
open Go.RowKit renaming Below→jD,Hid→jI,intOf→kC
open Go.RowKit.Below renaming refl→jE,heap_setCell→jW
open And renaming intro→jF
open Bool renaming and_eq_true→jJ
open List renaming length_append→jK,getElem?_eq_getElem→jL,take_succ_cons→jY,length_cons→j4,replicate→ky,length_take→kD,length_drop→kG,take_zero→kJ,take_of_length_le→kS,append_assoc→kX,getElem?_eq_some_iff→lu,size_toArray→lK,length_eq_zero_iff→mh,drop_zero→mM,take_append_drop→mO,drop_succ_cons→mP,getElem?_append_right→mZ,drop_eq_getElem_cons→nA
open ByteArray renaming size_extract→jP
open UInt8 renaming ofNat→jU
open Go.World renaming setCell→j5,cell?→mV
open Array renaming getElem?_eq_some_iff→j6,length_toList→kH,getElem?_modify→kU,replicate→lh
open Go.Code renaming region→kT
open Go.Region renaming ready→lI,Mode→lW,binds→mH
open Go.Sem renaming run→lL
open Option.some renaming injEq→mI
open Int renaming toNat_of_nonneg→ny
open Ne renaming symm→nz
open Option renaming none→V,some→U
open Bool renaming true→R,false→O
open Go.Addr renaming mk→Z
open Decidable renaming decide→At
namespace Go.Proofs.YtamfcjmhnndbdaaGreatDoor
set_option linter.unusedVariables false
set_option linter.defProp false
set_option linter.unusedSimpArgs false
set_option maxRecDepth 100000
set_option maxHeartbeats 8000000
variable {a:Act}{f:FuncId}{s:An}{most:Int}
def og{α:Sort _}(a:α):∃b,a=b:=⟨a,rfl⟩
def K{p:Prop}(h:p:=by omega):p:=h
def nV{p:Prop}(h:p:=by kernel_rfl):p:=h
def nT{p:Prop}(h:p:=by decide):p:=h
def nX{p:Prop}(h:p:=by simp):p:=h
def nY{p:Prop}(h:p:=by simp;omega):p:=h
def vo{p:Prop}(h:p:=by rw[beq_eq_false_iff_ne];omega):p:=h
def EX{p:Prop}(h:p:=by rw[bne_iff_ne];omega):p:=h
def Ot{p:Prop}(h:p:=by rw[beq_iff_eq];omega):p:=h
def xe{p:Prop}(h:p:=by unfold jN;omega):p:=h
def GQ{p:Prop}(h:p:=by unfold Addr.add;split<;>simp_all):p:=h
def xH{p:Prop}(h:p:=by decide+kernel):p:=h
section
open Go.RowKit
def nU(w:M)(b:Nat)(cs:Array jC)(t:jX):Prop:=w.heap[b]? =U (nL cs t (0,0))
def nU.lt{w:M}{b:Nat}{cs:Array jC}{t:jX}(h:nU w b cs t):b<w.heap.size:=(j6.1 h).1
def nU.cell{w:M}{b:Nat}{cs:Array jC}{t:jX}(h:nU w b cs t)(i:Nat):w.cell? (Z b i V)=cs[i]? :=by
 unfold nU at h;simp[mV,h]
def nU.c0{w:M}{b:Nat}{A:jC}{l:List jC}{t:jX}(h:nU w b (A::l).toArray t):w.cell? (Z b 0 V)=U A:=h.cell 0
def nU.c1{w:M}{b:Nat}{C A:jC}{l:List jC}{t:jX}(h:nU w b (C::A::l).toArray t):w.cell? (Z b 1 V)=U A:=h.cell 1
def nU.c2{w:M}{b:Nat}{C E A:jC}{l:List jC}{t:jX}(h:nU w b (C::E::A::l).toArray t):w.cell? (Z b 2 V)=U A:=h.cell 2
def nU.c3{w:M}{b:Nat}{C E I A:jC}{l:List jC}{t:jX}(h:nU w b (C::E::I::A::l).toArray t):w.cell? (Z b 3 V)=U A:=h.cell 3
def nU.c4{w:M}{b:Nat}{C E I J A:jC}{l:List jC}{t:jX}(h:nU w b (C::E::I::J::A::l).toArray t):w.cell? (Z b 4 V)=U A:=h.cell 4
def nU.c5{w:M}{b:Nat}{C E I J N A:jC}{l:List jC}{t:jX}(h:nU w b (C::E::I::J::N::A::l).toArray t):w.cell? (Z b 5 V)=U A:=h.cell 5
def nU.c6{w:M}{b:Nat}{C E I J N aa A:jC}{l:List jC}{t:jX}(h:nU w b (C::E::I::J::N::aa::A::l).toArray t):w.cell? (Z b 6 V)=U A:=h.cell 6
def nU.c7{w:M}{b:Nat}{C E I J N aa ae A:jC}{l:List jC}{t:jX}(h:nU w b (C::E::I::J::N::aa::ae::A::l).toArray t):w.cell? (Z b 7 V)=U A:=h.cell 7
def nU.free{w:M}{b:Nat}{cs:Array jC}{t:jX}(h:nU w b cs t)(i:Nat):w.frozen? (Z b i V)=O:=by
 unfold nU at h;simp[World.frozen?,h]
def nU.a10{w:M}{b:Nat}{A C E I J N aa ae af ag:jC}{l:List jC}{t:jX}(h:nU w b (A :: C :: E :: I :: J :: N :: aa :: ae :: af :: ag::l).toArray t):w.cell? (Z b 0 V)=U A/\w.cell? (Z b 1 V)=U C/\w.cell? (Z b 2 V)=U E/\w.cell? (Z b 3 V)=U I/\w.cell? (Z b 4 V)=U J/\w.cell? (Z b 5 V)=U N/\w.cell? (Z b 6 V)=U aa/\w.cell? (Z b 7 V)=U ae/\w.cell? (Z b 8 V)=U af/\w.cell? (Z b 9 V)=U ag:=⟨h.cell 0,h.cell 1,h.cell 2,h.cell 3,h.cell 4,h.cell 5,h.cell 6,h.cell 7,h.cell 8,h.cell 9⟩
def nU.a2{w:M}{b:Nat}{A C:jC}{l:List jC}{t:jX}(h:nU w b (A :: C::l).toArray t):w.cell? (Z b 0 V)=U A/\w.cell? (Z b 1 V)=U C:=⟨h.cell 0,h.cell 1⟩
def nU.a3{w:M}{b:Nat}{A C E:jC}{l:List jC}{t:jX}(h:nU w b (A :: C :: E::l).toArray t):w.cell? (Z b 0 V)=U A/\w.cell? (Z b 1 V)=U C/\w.cell? (Z b 2 V)=U E:=⟨h.cell 0,h.cell 1,h.cell 2⟩
def nU.a4{w:M}{b:Nat}{A C E I:jC}{l:List jC}{t:jX}(h:nU w b (A :: C :: E :: I::l).toArray t):w.cell? (Z b 0 V)=U A/\w.cell? (Z b 1 V)=U C/\w.cell? (Z b 2 V)=U E/\w.cell? (Z b 3 V)=U I:=⟨h.cell 0,h.cell 1,h.cell 2,h.cell 3⟩
def nU.a6{w:M}{b:Nat}{A C E I J N:jC}{l:List jC}{t:jX}(h:nU w b (A :: C :: E :: I :: J :: N::l).toArray t):w.cell? (Z b 0 V)=U A/\w.cell? (Z b 1 V)=U C/\w.cell? (Z b 2 V)=U E/\w.cell? (Z b 3 V)=U I/\w.cell? (Z b 4 V)=U J/\w.cell? (Z b 5 V)=U N:=⟨h.cell 0,h.cell 1,h.cell 2,h.cell 3,h.cell 4,h.cell 5⟩
def nU.b1{w:M}{b:Nat}{A:jC}{l:List jC}{t:jX}(h:nU w b (A::l).toArray t):w.cell? (Z b 0 V)=U A/\w.frozen? (Z b 0 V)=O:=⟨h.cell 0,h.free 0⟩
def nU.b3{w:M}{b:Nat}{A C E:jC}{l:List jC}{t:jX}(h:nU w b (A :: C :: E::l).toArray t):w.cell? (Z b 0 V)=U A/\w.cell? (Z b 1 V)=U C/\w.cell? (Z b 2 V)=U E/\w.frozen? (Z b 0 V)=O/\w.frozen? (Z b 1 V)=O/\w.frozen? (Z b 2 V)=O:=⟨h.cell 0,h.cell 1,h.cell 2,h.free 0,h.free 1,h.free 2⟩
def nU.b4{w:M}{b:Nat}{A C E I:jC}{l:List jC}{t:jX}(h:nU w b (A :: C :: E :: I::l).toArray t):w.cell? (Z b 0 V)=U A/\w.cell? (Z b 1 V)=U C/\w.cell? (Z b 2 V)=U E/\w.cell? (Z b 3 V)=U I/\w.frozen? (Z b 0 V)=O/\w.frozen? (Z b 1 V)=O/\w.frozen? (Z b 2 V)=O/\w.frozen? (Z b 3 V)=O:=⟨h.cell 0,h.cell 1,h.cell 2,h.cell 3,h.free 0,h.free 1,h.free 2,h.free 3⟩
def nU.b6{w:M}{b:Nat}{A C E I J N:jC}{l:List jC}{t:jX}(h:nU w b (A :: C :: E :: I :: J :: N::l).toArray t):w.cell? (Z b 0 V)=U A/\w.cell? (Z b 1 V)=U C/\w.cell? (Z b 2 V)=U E/\w.cell? (Z b 3 V)=U I/\w.cell? (Z b 4 V)=U J/\w.cell? (Z b 5 V)=U N/\w.frozen? (Z b 0 V)=O/\w.frozen? (Z b 1 V)=O/\w.frozen? (Z b 2 V)=O/\w.frozen? (Z b 3 V)=O/\w.frozen? (Z b 4 V)=O/\w.frozen? (Z b 5 V)=O:=⟨h.cell 0,h.cell 1,h.cell 2,h.cell 3,h.cell 4,h.cell 5,h.free 0,h.free 1,h.free 2,h.free 3,h.free 4,h.free 5⟩
def nU.f3{w:M}{b:Nat}{cs:Array jC}{t:jX}(h:nU w b cs t):w.frozen? (Z b 0 V)=O/\w.frozen? (Z b 1 V)=O/\w.frozen? (Z b 2 V)=O:=⟨h.free 0,h.free 1,h.free 2⟩
def nU.f4{w:M}{b:Nat}{cs:Array jC}{t:jX}(h:nU w b cs t):w.frozen? (Z b 0 V)=O/\w.frozen? (Z b 1 V)=O/\w.frozen? (Z b 2 V)=O/\w.frozen? (Z b 3 V)=O:=⟨h.free 0,h.free 1,h.free 2,h.free 3⟩
def nU.new(w:M)(cs:Array jC)(t:jX):nU (w.alloc (nL cs t)) w.heap.size cs t:=heap_alloc_new w _
def nU.alloc{w:M}{b:Nat}{cs:Array jC}{t:jX}(h:nU w b cs t)(o:Obj):nU (w.alloc o) b cs t:=by
 unfold nU;rw[Below.heap_alloc w o b h.lt];exact h
def nU.drew{w:M}{b:Nat}{cs:Array jC}{t:jX}(h:nU w b cs t):nU w.drew b cs t:=h
def nU.set{w:M}{b:Nat}{cs:Array jC}{t:jX}(h:nU w b cs t)(i:Nat)(v:jC):nU (w.setCell (Z b i V) v) b (cs.setIfInBounds i v) t:=by
 unfold nU at*;simp only[j5];rw[kU,AC rfl,h];rfl
def nU.setOther{w:M}{b:Nat}{cs:Array jC}{t:jX}(h:nU w b cs t){a:kW}(A:b≠a.block)(v:jC):nU (w.setCell a v) b cs t:=by
 unfold nU;rw[jW w a v b A];exact h
def pX(b:Nat)(w w':M):Prop:=w.grownBy w' (U b)
def pX.refl(b:Nat)(w:M):pX b w w:=World.grownBy.refl w _
def pX.trans{b:Nat}{ao v w:M}(h:pX b ao v)(k:pX b v w):pX b ao w:=
 ⟨k.os.trans h.os,k.tape.trans h.tape,k.output.trans h.output,jM h.size k.size,λi hi A=>(k.block i (jZ hi h.size) A).trans (h.block i hi A)⟩
def pX.drew{b:Nat}{ao v:M}(h:pX b ao v):pX b ao v.drew:=⟨h.os,h.tape,h.output,h.size,h.block⟩
def pX.of{b:Nat}{w w':M}(h:jD w.heap.size w w'):pX b w w':=⟨h.os,h.tape,h.output,h.size,λi hi _=>h.block i hi⟩
def pX.alloc{b:Nat}{ao v:M}(h:pX b ao v)(o:Obj):pX b ao (v.alloc o):=h.trans (pX.of ((jE _ _).alloc (jB _) o))
def pX.set{b:Nat}{ao v:M}(h:pX b ao v)(i:Nat)(x:jC):pX b ao (v.setCell (Z b i V) x):=
 h.trans ⟨rfl,rfl,rfl,by simp[j5],λk _ A=>jW _ _ _ _ (λe=>A (by rw[e]))⟩
def pX.CW{b:Nat}{ao v:M}(h:pX b ao v){a:kW}(C:ao.heap.size<=a.block)(x:jC):pX b ao (v.setCell a x):=
 ⟨h.os,h.tape,h.output,by simpa [j5]using h.size,λk hk A=>(jW v a x k K).trans (h.block k hk A)⟩
def pX.blk{b c:Nat}{w w':M}{cs:Array jC}{t:jX}(h:pX b w w')(hc:nU w c cs t)(A:c≠b):nU w' c cs t:=by
 unfold nU;rw[h.block c hc.lt (by simpa using A)];exact hc
def pX.below{b B:Nat}{w0 w w':M}(h:pX b w w')(hb:jD B w0 w)(hB:B<=b)(A:B<=w.heap.size):jD B w0 w':=
 hb.grown h A λk hk=>by simp at hk;omega
def Below.blk{B c:Nat}{w w':M}{cs:Array jC}{t:jX}(h:jD B w w')(hc:nU w c cs t)(hlt:c<B):nU w' c cs t:=by
 unfold nU;rw[h.block c hlt];exact hc
def Calls.Yt{P:lQ}{args:Array jC}{w:M}{n:Nat}{v:jC}(h:jG P f args (w.drewN n) λe w'=>e=nK v/\w.drewN n=w'):jG P f args (w.drewN n) λe A=>e=nK v/\∃m,A=w.drewN m:=
 h.mono λ_ _ ⟨he,C⟩=>⟨he,n,C.symm⟩
def nU.drewN{w:M}{b:Nat}{cs:Array jC}{t:jX}(h:nU w b cs t)(n:Nat):nU (w.drewN n) b cs t:=h
def uj{P:lQ}{c:Code}{Q:Exit->Act->M->Prop}{W:M}(F:M->Prop)(hF:F W)(h:∀w,F w->c.wp P Q a w):c.wp P Q a W:=h W hF
structure oW(b q:Nat)(w w':M):Prop where
 os:w'.os=w.os
 tape:w'.tape=w.tape
 output:w'.output=w.output
 size:w.heap.size<=w'.heap.size
 block:∀k,k<w.heap.size->k≠b->k≠q->w'.heap[k]? =w.heap[k]?
def oW.refl(b q:Nat)(w:M):oW b q w w:=⟨rfl,rfl,rfl,jB _,λ_ _ _ _=>rfl⟩
def oW.trans{b q:Nat}{ao v w:M}(h:oW b q ao v)(k:oW b q v w):oW b q ao w:=
 ⟨k.os.trans h.os,k.tape.trans h.tape,k.output.trans h.output,jM h.size k.size,λi hi hb A=>(k.block i (jZ hi h.size) hb A).trans (h.block i hi hb A)⟩
def oW.drew{b q:Nat}{ao v:M}(h:oW b q ao v):oW b q ao v.drew:=⟨h.os,h.tape,h.output,h.size,h.block⟩
def oW.drewN{b q:Nat}{ao v:M}(h:oW b q ao v)(n:Nat):oW b q ao (v.drewN n):=⟨h.os,h.tape,h.output,h.size,h.block⟩
def oW.C8{b q:Nat}{ao v:M}(h:oW b q ao v)(i:Nat)(x:jC):oW b q ao (v.setCell (Z b i V) x):=
 h.trans ⟨rfl,rfl,rfl,by simp[j5],λk _ hb _=>jW _ _ _ _ hb⟩
def oW.Q6{b q:Nat}{ao v:M}(h:oW b q ao v)(i:Nat)(x:jC):oW b q ao (v.setCell (Z q i V) x):=
 h.trans ⟨rfl,rfl,rfl,by simp[j5],λk _ _ A=>jW _ _ _ _ A⟩
def oW.blk{b q c:Nat}{w w':M}{cs:Array jC}{t:jX}(h:oW b q w w')(hc:nU w c cs t)(hb:c≠b)(A:c≠q):nU w' c cs t:=by
 unfold nU;rw[h.block c hc.lt hb A];exact hc
def oW.upd{b q:Nat}{ao w w':M}(h:oW b q w w')(A:pX b ao w)(E:ao.heap.size<=q):pX b ao w':=
 ⟨h.os.trans A.os,h.tape.trans A.tape,h.output.trans A.output,jM A.size h.size,λk hk C=>
  (h.block k (jZ hk A.size) (by simpa using C) K).trans (A.block k hk C)⟩
def pX.drewN{b:Nat}{ao v:M}(h:pX b ao v)(n:Nat):pX b ao (v.drewN n):=⟨h.os,h.tape,h.output,h.size,h.block⟩
def oh(l:List Ax):List jC:=l.map λb=> Y .u8 (b.toNat:Int)
@[simp] theorem rV (l:List Ax):(oh l).length=l.length:=by simp[oh]
def pI(l m:List Ax):oh (l++m)=oh l++oh m:=by simp[oh]
def oI(w:M)(B:Nat)(e:jX)(v:jC)(l:List Ax):Prop:=w.ownsRow B e 1 v l.length (oh l)
structure qj(P:lQ)(t e s:jX):Prop where
 ht:P.underlying t=U (.slice e)
 he:P.underlying e=U (.int .u8)
 hs:P.underlying s=U .string
 hi:(P.info? e).map (λi=>(i.zero,i.size,i.bytes))=U (U (Y .u8 0),1,1)
section
variable {P:lQ}{t e s:jX}
def oI.nil(w:M)(B:Nat)(e:jX):oI w B e (u V 0 0) []:=World.ownsRow_nil w B e 1
def oI.made(w:M)(B:Nat)(e:jX)(A:Array jC)(cap:Nat)(hb:B<=w.heap.size)(C:cap<=jN)(hs:A.size=cap):
  oI (w.alloc (nL A e)) B e (u (U (Z w.heap.size 0 V)) 0 cap) []:=World.ownsRow_made w A cap hb C (by simpa using hs)
def oI.drew{w:M}{B:Nat}{v:jC}{l:List Ax}(h:oI w B e v l):oI w.drew B e v l:=World.ownsRow.drew h
def oI.alloc{w:M}{B:Nat}{v:jC}{l:List Ax}(h:oI w B e v l)(o:Obj):oI (w.alloc o) B e v l:=World.ownsRow.alloc h o
def oI.below{w w':M}{B:Nat}{v:jC}{l:List Ax}(h:oI w B e v l)(hb:jD w.heap.size w w'):oI w' B e v l:=by
 obtain⟨I,A⟩:=h;refine⟨I,?_⟩;rcases A with A|⟨g,cap,C,J,hg,E,r⟩
 .exact .inl A
 .refine .inr ⟨g,cap,C,J,hg,?_,r⟩
  rw[hb.block g (j6.1 E).1];exact E
def Uf{p:Prop}(h:p:=by
 rw[run_convert_bytes_string w t s e _ _ _ T.ht T.he T.hs];simp[Conv.bytesToString,ByteArray.empty,ByteArray.emptyWithCapacity];rfl):p:=h
def oI.string{w:M}{B:Nat}{v:jC}{l:List Ax}(T:qj P t e s)(h:oI w B e v l):
  (convert t s v).run P w=.ok (G ⟨l.toArray⟩) w:=by
 rcases h.2 with⟨rfl,h0⟩|⟨g,cap,E,rfl,hb,hg,A,I,hsz,htake⟩
 .have:l=[]:=mh.1 h0
  subst this;exact Uf
 .refine run_convert_bytes_back w t s e (Z g 0 V) cap l T.ht T.he T.hs λj C=> ?_
  have:=World.ownsRow.cells h (g:=g) rfl j (Y .u8 (l[j].toNat:Int)) (by simp[oh,jL C]);exact this
def Iq(T:qj P t e s)(w:M)(l:List Ax)(cs:Array jC)(n:Nat)(hn:n=l.length)(A:cs.toList=oh l)(C:n<=jN):
  (convert t s (u (U (Z w.heap.size 0 V)) n n)).run P (w.alloc (nL cs e))=.ok (G ⟨l.toArray⟩) (w.alloc (nL cs e)):=by
 subst hn;have:oI (w.alloc (nL cs e)) 0 e (u (U (Z w.heap.size 0 V)) l.length l.length) l:=by
  have:=World.ownsRow_lit (base:=0) (e:=e) (size:=1) w cs l.length (ko _) C (by
   have:=congrArg List.length A;simpa using this)
  rw[A]at this;exact this
 exact this.string T
def sH(l:List Ax):∀ao∈oh l,ao.oneCell'=R:=by
 intro ao A;simp[oh]at A;obtain⟨b,_,rfl⟩:=A;rfl
def o7(T:qj P t e s){ops:Array lJ}{rest:List lJ}{o:lJ}{Q:Exit->Act->M->Prop}(E:o.guard=V)(x y:Operand)(ho:o.op=.call {callee:=.builtin .append,args:=#[x,y],argTypes:=#[t,t]})(B:Nat)(v:jC)(l m:List Ax)(k:Nat)(hk:k=m.length)(w:M)(cs:Array jC)(I:cs.toList=oh m)(af:a.eval x=v)(A:oI w B e v l)(hy:a.eval y=u (U (Z w.heap.size 0 V)) k k)(hlen:l.length+k<=140737488355328)(hB:B<=w.heap.size)(h:∀v' w',oI w' B e v' (l++m)->jD B w w'->w.heap.size<w'.heap.size->wpList P ops Q rest (a.put o.dst v') w'):
  wpList P ops Q (o::rest) a (w.alloc (nL cs e)):=by
 subst hk;obtain⟨ag,hi,J,N,aa⟩:=info_parts T.hi
 refine wpList_append_own _ E x y t ho B e ag (Y .u8 0) 1 1 T.ht hi J N aa rfl nT v l.length (oh l) af (A.alloc _)
  (Z w.heap.size 0 V) m.length m.length (oh m) hy nX ?_ (sH m) xe K nY ?_
 .intro j ao C
  have e1:((Z w.heap.size 0 V):kW).add j=(Z w.heap.size j V):=GQ;rw[e1,World.cell?_alloc_mark w cs e (0,0) j,<-C,<-I,Array.getElem?_toList]
 .intro v' w' ah ae _
  refine h v' w' ?_ ?_ ?_
  .show w'.ownsRow B e 1 v' (l++m).length (oh (l++m))
   rw[jK,pI];exact ah
  .refine((jE B w).alloc hB _).grown ae nY λj C=> ?_
   exact(World.ownsRow.lt A j C).1
  .have:=ae.size;simp at this;omega
end
structure sW(w:M) where
 at_:M
 is:jD w.heap.size w at_
instance(w:M):Nonempty (sW w):=⟨⟨w,jE _ _⟩⟩
def After(w:M):M->Prop:=λw'=>jD w.heap.size w w'
def After.trans{a b c:M}(h:After a b)(k:After b c):After a c:=Below.trans h (Below.mono k h.size)
def oK{P:lQ}{id:Nat}{Q:Exit->Act->M->Prop}{w:M}{l:List lJ}(E:P.follows .mixedOrders=R)(hB:Region.lexB .any l.toArray=R)(h:wpQuiet P l.toArray (λw'=>∃x:sW w,w'=x.at_) (λA=>∀x:sW w,Q .normal A x.at_) l a):(kT id l.toArray R).wp P Q a w:=by
 refine wp_region_quiet (C:=λw'=>∃x:sW w,w'=x.at_) E hB ⟨⟨_,(jE _ _).drew⟩,rfl⟩ ?_;have e:(λA:Act=>∀w',(∃x:sW w,w'=x.at_)->Q .normal A w')=λA=>∀x:sW w,Q .normal A x.at_:=by
  funext A;exact propext ⟨λh x=>h _ ⟨x,rfl⟩,λh w' ⟨x,I⟩=>I▸h x⟩
 rw[e];simpa using h
def Calls.after{P:lQ}{args:Array jC}{w:M}{x:sW w}{v:jC}(h:jG P f args x.at_ λe w'=>e=nK v/\jD x.at_.heap.size x.at_ w'):jG P f args x.at_ λe A=>e=nK v/\∃y:sW w,A=y.at_:=
 h.mono λ_ w' ⟨he,C⟩=>⟨he,⟨w',After.trans x.is C⟩,rfl⟩
def size_mk(l:List Ax):(⟨l.toArray⟩:An).size=l.length:=lK
def AL(n:Nat)(h:n<256):(jU n).toNat=n:=by
 show n % 256=n;exact Nat.mod_eq_of_lt h
def yZ{x:Int}{n:Nat}(A:x=(n:Int))(h:n<256):[lC .u8 x]=oh [jU n]:=by
 subst A;simp[oh,AL n h]
section
variable {P:lQ}{ops:Array lJ}{md:lW}{C:M->Prop}
def Ou(P:lQ)(md:lW)(ops:Array lJ)(C:M->Prop)(n:Nat)(L:Array Bool->Act->Prop):Nat->Array Bool->Act->Prop
 |0,A,a=>L A a
 |f+1,A,a=>lI md ops A≠[]/\∀i∈lI md ops A,i<n/\qOp P ops C i (Ou P md ops C n L f (A.setIfInBounds i R)) a
def DK{n g:Nat}{L:Array Bool->Act->Prop}{Q:Exit->Act->M->Prop}(hL:∀A a w,C w->L A a->wpAny P md ops Q g A a w):
  ∀(f:Nat)(A:Array Bool)(a:Act)(w:M),C w->Ou P md ops C n L f A a->wpAny P md ops Q (f+g) A a w
 |0,A,a,w,E,h=>by rw[mU];exact hL _ _ _ E h
 |f+1,A,a,w,E,h=>by
  rw[show f+1+g=(f+g)+1 by omega];exact⟨λh0=>absurd h0 h.1,λi hi=>wpOp_of_qOp E (λJ w' I N=>DK hL f _ J w' I N) (h.2 i hi).2⟩
def Ug{p:Prop}(h:p:=by
 rcases kQ j n with h|h
 .exact h
 .exact absurd hj (tail_waits hs hc hn inv _ i rfl hin hun j h)):p:=h
def Ov{n i:Nat}{oi:lJ}{v:jC}{L:Array Bool->Act->Prop}(hi:ops[i]? =U oi)(ae:∀(j:Nat) (o:lJ) cs b,ops[j]? =U o->o.op≠.select cs b)(hs:Region.sinkB md ops n=R)(hc:Region.chainB md ops n=R)(hn:n<ops.size)(hin:i<n)(hdone:∀A a,L A a->∀j∈lI md ops A,n<=j):
  ∀(f:Nat)(A:Array Bool)(a:Act),HeadInv md ops n A->
   (∀j J,ops[j]? =U J->j≠i->A.getD j R=O->(∀e∈J.after,mH md e=R->e.on≠i)->oi.apart ops J=R)->
   i∈lI md ops A->YieldsIn P ops C oi v a->
   Ou P md ops C n L f (A.setIfInBounds i R) (a.put oi.dst v)->Ou P md ops C n L (f+1) A a:=by
 intro f;induction f with
 |zero=>
  intro A a inv _ I hy ad;have hun:=(mem_ready.1 I).1;refine⟨λh=>(by rw[h]at I;cases I),λj hj=> ?_⟩;have N:j<n:=by
   exact Ug
  refine⟨N,?_⟩;by_cases E:j=i;.subst E;exact hy.qOp hi ad
  .have:=hdone _ _ ad j (ready_mono hj E)
   omega
 |succ f aA=>
  intro A a inv aa I hy ad;have hun:=(mem_ready.1 I).1;refine⟨λh=>(by rw[h]at I;cases I),λj hj=> ?_⟩;have N:j<n:=by
   exact Ug
  refine⟨N,?_⟩;by_cases E:j=i;.subst E;exact hy.qOp hi ad
  .have ai:=(ad.2 j (ready_mono hj E)).2
   obtain⟨af,J,ag,ak⟩:=mem_ready.1 hj;have au:∀e∈J.after,mH md e=R->e.on≠i:=λe he hb av=>by
    have ai:=ak e he hb;rw[av,getD_both hun]at ai;cases ai
   have aB:=qOp_put ag (aa j J ag E af au) (λcs b=>ae i oi cs b hi) (λcs b=>ae j J cs b ag) hy ai
   have ah:∀k ok,ops[k]? =U ok->k≠i->(A.setIfInBounds j R).getD k R=O->
     (∀e∈ok.after,mH md e=R->e.on≠i)->oi.apart ops ok=R:=λk ok hk ax hun ay=>by
    refine aa k ok hk ax ?_ ay;by_cases aj:j=k;.subst aj;exact af
    .rw[getD_set_ne R aj]at hun;exact hun
   refine qOp_mono (λaC az=>aA (A.setIfInBounds j R) aC (inv.set hj N) ah (ready_mono I (nz E)) az.1 ?_) aB;rw[Array.setIfInBounds_comm _ _ E];exact az.2
def KZ{n g:Nat}{aa:Act->Prop}(I:Region.noSelect ops=R)(hs:Region.sinkB md ops n=R)(hc:Region.chainB md ops n=R)(hn:n<ops.size):
  ∀(l:List lJ)(k:Nat)(A:Array Bool)(a:Act),(∀j,j<l.length->l[j]? =ops[k+j]?)->k+l.length=n->HeadInv md ops n A->
  Region.lexHead md ops g l.length k A=R->wpQuiet P ops C aa l a->
  Ou P md ops C n (λE ae=>Region.seqB md ops g n E=R/\aa ae) l.length A a
 |[],k,A,a,_,hk,_,hB,h=>by
  have:k=n:=by simpa using hk
  subst this;exact⟨by simpa [Region.lexHead]using hB,h⟩
 |o::l,k,A,a,hl,hk,inv,hB,h=>by
  have h0:ops[k]? =U o:=by simpa using(hl 0 nX).symm
  simp only[j4,Region.lexHead,jJ]at hB;obtain⟨⟨ah,ai⟩,af⟩:=hB;have J:k<n:=by simp only[j4]at hk;omega
  have N:k∈lI md ops A:=by simpa using ah
  have ag:qOp P ops C k (wpQuiet P ops C aa l) a:=by unfold qOp;simp only[h0];exact h
  obtain⟨v,hy,aj⟩:=yieldsIn_of_qOp h0 ag
  exact Ov h0 (Region.noSelect_spec I) hs hc hn J (λE ae hL=>seqB_ready hL.1) l.length A a inv (Region.free_spec h0 ai) N hy
   (KZ I hs hc hn l (k+1) _ _ (λj ak=>by have:=hl (j+1) nY;simpa [kK,Nat.add_comm 1 j]using this) (by simp only[j4]at hk;omega) (inv.set N J) af aj)
def wE{id:Nat}{Q:Exit->Act->M->Prop}{w:M}{l:List lJ}(n:Nat)(ah:P.follows .mixedOrders=R)(hB:Region.lexTailB .any l.toArray n=R)(ai:C {w with drawn:=w.drawn+1})(h:wpQuiet P l.toArray C (λI=>∀w',C w'->wpList P l.toArray Q (l.drop n) I w') (l.take n) a):(kT id l.toArray R).wp P Q a w:=by
 simp only[Region.lexTailB,jJ,decide_eq_true_eq]at hB;obtain⟨⟨⟨⟨J,hn⟩,hs⟩,hc⟩,N⟩:=hB;have aj:n<l.length:=by simpa using hn
 have htl:(l.take n).length=n:=nY;have E:(l.drop n).length=l.toArray.size - n:=nX
 have aa:HeadInv .any l.toArray n (lh l.toArray.size O):=
  ⟨nX,λj ak _ hl=>(by rw[getD_replicate_false]at hl;cases hl),λt _ ht=>getD_in (by simpa using ht) (getD_replicate_false _ _)⟩
 have ad:=KZ (md:=.any) (C:=C) (g:=l.toArray.size - n) J hs hc hn (l.take n) 0 _ a (λj ae=>by
  have af:j<n:=by rw[htl]at ae;exact ae
  simp[af]) (by simpa using htl) aa (by rw[htl];exact N) h
 refine wp_region_any ah ?_;have:=DK (Q:=Q) (g:=l.toArray.size - n) (λA I w' ag hL=>by
  have:=wpAny_of_seq (md:=.any) (Q':=Q) (l.drop n) n A I w' (λj=>by simp[List.getElem?_drop]) (by rw[E];exact hL.1) (hL.2 w' ag);rwa [E]at this) _ _ _ _ ai ad
 rw[htl,show n+(l.toArray.size - n)=l.toArray.size by omega]at this;exact this
def wF{id:Nat}{Q:Exit->Act->M->Prop}{w:M}{l:List lJ}(n:Nat)(E:P.follows .mixedOrders=R)(hB:Region.lexTailB .any l.toArray n=R)(h:wpQuiet P l.toArray (λw'=>∃x:sW w,w'=x.at_) (λA=>∀x:sW w,wpList P l.toArray Q (l.drop n) A x.at_) (l.take n) a):(kT id l.toArray R).wp P Q a w:=by
 refine wE (C:=λw'=>∃x:sW w,w'=x.at_) n E hB ⟨⟨_,(jE _ _).drew⟩,rfl⟩ ?_;have e:(λA:Act=>∀w',(∃x:sW w,w'=x.at_)->wpList P l.toArray Q (l.drop n) A w')=λA=>∀x:sW w,wpList P l.toArray Q (l.drop n) A x.at_:=by
  funext A;exact propext ⟨λh x=>h _ ⟨x,rfl⟩,λh w' ⟨x,I⟩=>I▸h x⟩
 rw[e];exact h
def qh{id:Nat}{Q:Exit->Act->M->Prop}{w:M}{l:List lJ}(n:Nat)(E:P.follows .mixedOrders=R)(hB:Region.lexTailB .any l.toArray n=R)(h:wpQuiet P l.toArray (λw'=>∃k,w'=w.drewN k) (λA=>∀k,wpList P l.toArray Q (l.drop n) A (w.drewN k)) (l.take n) a):(kT id l.toArray R).wp P Q a w:=by
 refine wE (C:=λw'=>∃k,w'=w.drewN k) n E hB ⟨1,rfl⟩ ?_;have e:(λA:Act=>∀w',(∃k,w'=w.drewN k)->wpList P l.toArray Q (l.drop n) A w')=λA=>∀k,wpList P l.toArray Q (l.drop n) A (w.drewN k):=by
  funext A;exact propext ⟨λh k=>h _ ⟨k,rfl⟩,λh w' ⟨k,hk⟩=>hk▸h k⟩
 rw[e];exact h
end
structure RS where
 t:An
 p:Nat
 f:Int
def RS.cs(r:RS):Array jC:=#[G r.t,Y X r.p,Y X r.f]
def RS.Ok(r:RS):Prop:=r.p<=r.t.size/\r.t.size<=9223372036854775807
def xg(w:M)(b:Nat)(r:RS):Prop:=nU w b r.cs 220
def Yu(b A C q:Nat)(n:Int)(w:M)(h0:n<0)(hn:w.cell? (Z A 0 V)=U (Y X n)):
  jG jy 184 #[nG (U (Z A 0 V)),nG (U (Z C 0 V)),nG (U (Z q 0 V))] w λe w'=>e=nK (Y X 1)/\w=w':=by
 go_in;go_wp2;go_returns;exact⟨rfl,rfl⟩
def VT(b A C q:Nat)(t:An)(p:Nat)(f n:Int)(w:M)(hp:p<=t.size)(ht:t.size<=9223372036854775807)(h0:0<=n)(E:(t.size:Int) - p<n)(hb:nU w b (RS.cs ⟨t,p,f⟩) 220)(hn:w.cell? (Z A 0 V)=U (Y X n))(I:w.cell? (Z C 0 V)=U (nG (U (Z b 0 V)))):
  jG jy 184 #[nG (U (Z A 0 V)),nG (U (Z C 0 V)),nG (U (Z q 0 V))] w λe w'=>e=nK (Y X 2)/\∃k,w'=w.drewN k:=by
 have c0:=hb.cell 0;have c1:=hb.cell 1;simp[RS.cs]at c0 c1;have J:At (n<0)=O:=by simpa using h0
 go_in;go_wp2;go_quiet (fail);go_wp2;go_returns;exact⟨rfl,_,rfl⟩
def a2y(b C E q:Nat)(t:An)(p m:Nat)(f:Int)(w:M)(ht:t.size<=9223372036854775807)(af:p+m<=t.size)(A:q≠b)(J:E≠q)(N:C≠q)(hb:nU w b (RS.cs ⟨t,p,f⟩) 220)(I:nU w q #[G ⟨#[]⟩] 9)(hn:w.cell? (Z C 0 V)=U (Y X m))(ag:w.cell? (Z E 0 V)=U (nG (U (Z b 0 V)))):
  jG jy 184 #[nG (U (Z C 0 V)),nG (U (Z E 0 V)),nG (U (Z q 0 V))] w λe w'=>e=nK (Y X 0)/\oW b q w w'/\
   nU w' b (RS.cs ⟨t,p+m,f⟩) 220/\nU w' q #[G (t.extract p (p+m))] 9:=by
 have c0:=hb.cell 0;have c1:=hb.cell 1;have f1:=hb.free 1;have aa:=I.cell 0;have ah:=I.free 0;simp[RS.cs]at c0 c1 aa;have ai:At ((m:Int)<0)=O:=nX;have aj:At ((t.size:Int) - p<m)=O:=nY;go_in;go_wp2;go_quiet (fail);go_wp2;refine qh 15 nV nV ?_;simp only[jY,kJ,mP,mM];repeat(go_big_quiet_step (fail))
 refine l7 ?_;intro ae;go_wp2;refine qh 8 nV nV ?_;simp only[jY,kJ,mP,mM];repeat(go_big_quiet_step (fail))
 refine l7 ?_;intro ak;go_wp2;go_returns;exact⟨rfl,((((oW.refl b q w).drewN _).Q6 0 _).C8 1 _).drewN _,((hb.drewN _).setOther (nz A) _).set 1 _,((I.drewN _).set 0 _).setOther A _⟩
def VU(b A q:Nat)(t:An)(p:Nat)(f:Int)(w:M)(ht:t.size<=9223372036854775807)(hp:p<=t.size)(C:t.size<=p)(hb:nU w b (RS.cs ⟨t,p,f⟩) 220)(E:w.cell? (Z A 0 V)=U (nG (U (Z b 0 V)))):
  jG jy 259 #[nG (U (Z A 0 V)),nG (U (Z q 0 V))] w λe w'=>e=nK (Y X 2)/\∃k,w'=w.drewN k:=by
 have c0:=hb.cell 0;have c1:=hb.cell 1;simp[RS.cs]at c0 c1;go_in;go_wp2;go_quiet (fail);go_wp2;go_returns;exact⟨rfl,_,rfl⟩
def a2z(b C q:Nat)(t:An)(p:Nat)(f:Int)(w:M)(ht:t.size<=9223372036854775807)(N:p<t.size)(A:q≠b)(I:C≠q)(hb:nU w b (RS.cs ⟨t,p,f⟩) 220)(E:nU w q #[Y .u8 0] 5)(aa:w.cell? (Z C 0 V)=U (nG (U (Z b 0 V)))):
  jG jy 259 #[nG (U (Z C 0 V)),nG (U (Z q 0 V))] w λe w'=>e=nK (Y X 0)/\oW b q w w'/\
   nU w' b (RS.cs ⟨t,p+1,f⟩) 220/\nU w' q #[Y .u8 (t[p].toNat:Int)] 5:=by
 have c0:=hb.cell 0;have c1:=hb.cell 1;have f1:=hb.free 1;have J:=E.cell 0;have ae:=E.free 0;simp[RS.cs]at c0 c1 J;go_in;go_wp2;go_quiet (fail);go_wp2;refine qh 9 nV nV ?_;simp only[jY,kJ,mP,mM];repeat(go_big_quiet_step (fail))
 refine l7 ?_;intro af;go_wp2;go_returns;exact⟨rfl,(((oW.refl b q w).drewN _).Q6 0 _).C8 1 _,((hb.drewN _).setOther (nz A) _).set 1 _,((E.drewN _).set 0 _).setOther A _⟩
def Q7(b A C q:Nat)(n:Int)(w:M)(h0:¬0<n)(hn:w.cell? (Z A 0 V)=U (Y X n)):
  jG jy 270 #[nG (U (Z A 0 V)),nG (U (Z C 0 V)),nG (U (Z q 0 V))] w λe w'=>e=nK (Y X 0)/\w=w':=by
 go_in;go_wp2;go_returns;exact⟨rfl,rfl⟩
def Yv(b C E q:Nat)(t:An)(p m:Nat)(f n:Int)(w:M)(ht:t.size<=9223372036854775807)(hp:p<=t.size)(h0:0<n)(J:m=min n.toNat (t.size - p))(I:q≠b)(hb:nU w b (RS.cs ⟨t,p,f⟩) 220)(A:nU w q #[G ⟨#[]⟩] 9)(hn:w.cell? (Z C 0 V)=U (Y X n))(af:w.cell? (Z E 0 V)=U (nG (U (Z b 0 V)))):
  jG jy 270 #[nG (U (Z C 0 V)),nG (U (Z E 0 V)),nG (U (Z q 0 V))] w λe w'=>e=nK (Y X 0)/\oW b q w w'/\
   nU w' b (RS.cs ⟨t,p,f⟩) 220/\nU w' q #[G (t.extract p (p+m))] 9:=by
 have c0:=hb.cell 0;have c1:=hb.cell 1;have N:=A.cell 0;have ag:=A.free 0;simp[RS.cs]at c0 c1 N;have aa:(if(t.size:Int) - p<n then(t.size:Int) - p else n)=(m:Int):=by split<;>omega
 have ae:p+m<=t.size:=K;clear J;go_in;go_wp2;refine qh 26 nV nV ?_;simp only[jY,kJ,mP,mM];repeat(go_big_quiet_step (fail))
 refine l7 ?_;intro k;go_wp2;go_returns;exact⟨rfl,((oW.refl b q w).drewN _).Q6 0 _,(hb.drewN _).setOther (nz I) _,(A.drewN _).set 0 _⟩
def VV(A:Nat)(x:Int)(w:M)(hn:w.cell? (Z A 0 V)=U (Y X x)):
  jG jy 225 #[nG (U (Z A 0 V))] w λe w'=>e=nK (Y X x)/\w=w':=by
 go_in;go_wp2;go_returns;exact⟨rfl,rfl⟩
def DL(b:Nat)(r:RS)(v:jC)(w:M)(A:((r.f:Int)==0)=O)(hb:xg w b r):
  jG jy 183 #[nG (U (Z b 0 V)),v] w λe w'=>e=nK (nJ #[])/\w=w':=by
 obtain⟨t,p,f⟩:=r;have c2:=nU.cell hb 2;simp[RS.cs]at c2;simp only at A;go_in;go_wp2;go_returns;exact⟨rfl,rfl⟩
def C9(b q:Nat)(t:An)(p C:Nat)(x:Int)(cf:Array jC)(ar:M->Prop)(w:M)(hb:xg w b ⟨t,p,0⟩)(E:∀w i v,ar w->ar (w.setCell (Z b i V) v))(I:jG jy 184 cf w λe w'=>e=nK (Y X x)/\oW b q w w'/\xg w' b ⟨t,C,0⟩/\ar w'):
  jG jy 183 #[nG (U (Z b 0 V)),.func (.func 184) #[] cf] w λe w'=>e=nK (nJ #[])/\oW b q w w'/\xg w' b ⟨t,C,x⟩/\ar w':=by
 have c2:=nU.cell hb 2;simp[RS.cs]at c2;have N:=H I;have aa:=H E;clear I E;go_in;go_wp2_with fail;refine N.mono ?_;rintro e w1 ⟨rfl,ae,A,J⟩;have af:=nU.cell A 2;have f2:=nU.free A 2;simp[RS.cs]at af;go_wp2;go_returns;exact⟨rfl,ae.C8 2 _,nU.set A 2 _,aa _ _ _ J⟩
def Ir(b q:Nat)(t:An)(p C:Nat)(x:Int)(cf:Array jC)(ar:M->Prop)(w:M)(hb:xg w b ⟨t,p,0⟩)(E:∀w i v,ar w->ar (w.setCell (Z b i V) v))(I:jG jy 259 cf w λe w'=>e=nK (Y X x)/\oW b q w w'/\xg w' b ⟨t,C,0⟩/\ar w'):
  jG jy 183 #[nG (U (Z b 0 V)),.func (.func 259) #[] cf] w λe w'=>e=nK (nJ #[])/\oW b q w w'/\xg w' b ⟨t,C,x⟩/\ar w':=by
 have c2:=nU.cell hb 2;simp[RS.cs]at c2;have N:=H I;have aa:=H E;clear I E;go_in;go_wp2_with fail;refine N.mono ?_;rintro e w1 ⟨rfl,ae,A,J⟩;have af:=nU.cell A 2;have f2:=nU.free A 2;simp[RS.cs]at af;go_wp2;go_returns;exact⟨rfl,ae.C8 2 _,nU.set A 2 _,aa _ _ _ J⟩
def Gf(b q:Nat)(t:An)(p C:Nat)(x:Int)(cf:Array jC)(ar:M->Prop)(w:M)(hb:xg w b ⟨t,p,0⟩)(E:∀w i v,ar w->ar (w.setCell (Z b i V) v))(I:jG jy 270 cf w λe w'=>e=nK (Y X x)/\oW b q w w'/\xg w' b ⟨t,C,0⟩/\ar w'):
  jG jy 183 #[nG (U (Z b 0 V)),.func (.func 270) #[] cf] w λe w'=>e=nK (nJ #[])/\oW b q w w'/\xg w' b ⟨t,C,x⟩/\ar w':=by
 have c2:=nU.cell hb 2;simp[RS.cs]at c2;have N:=H I;have aa:=H E;clear I E;go_in;go_wp2_with fail;refine N.mono ?_;rintro e w1 ⟨rfl,ae,A,J⟩;have af:=nU.cell A 2;have f2:=nU.free A 2;simp[RS.cs]at af;go_wp2;go_returns;exact⟨rfl,ae.C8 2 _,nU.set A 2 _,aa _ _ _ J⟩
def Q8(b q:Nat)(t:An)(p C:Nat)(x:Int)(cf:Array jC)(ar:M->Prop)(w:M)(hb:xg w b ⟨t,p,0⟩)(E:∀w i v,ar w->ar (w.setCell (Z b i V) v))(I:jG jy 225 cf w λe w'=>e=nK (Y X x)/\pX b w w'/\xg w' b ⟨t,C,0⟩/\ar w'):
  jG jy 183 #[nG (U (Z b 0 V)),.func (.func 225) #[] cf] w λe w'=>e=nK (nJ #[])/\pX b w w'/\xg w' b ⟨t,C,x⟩/\ar w':=by
 have c2:=nU.cell hb 2;simp[RS.cs]at c2;have N:=H I;have aa:=H E;clear I E;go_in;go_wp2_with fail;refine N.mono ?_;rintro e w1 ⟨rfl,ae,A,J⟩;have af:=nU.cell A 2;have f2:=nU.free A 2;simp[RS.cs]at af;go_wp2;go_returns;exact⟨rfl,ae.set 2 _,nU.set A 2 _,aa _ _ _ J⟩
abbrev vv:An:=⟨#[]⟩
def RS.of(t:An):RS:=⟨t,0,0⟩
def RS.take(r:RS)(n:Int):RS×An:=
 if r.f=0 then
  if n<0 then(⟨r.t,r.p,1⟩,vv)else if(r.t.size:Int) - r.p<n then(⟨r.t,r.p,2⟩,vv)else(⟨r.t,r.p+n.toNat,0⟩,r.t.extract r.p (r.p+n.toNat))
 else(r,vv)
def RS.byte(r:RS):RS×Int:=
 if r.f=0 then if h:r.p<r.t.size then(⟨r.t,r.p+1,0⟩,(r.t[r.p].toNat:Int))else(⟨r.t,r.p,2⟩,0)else(r,0)
def RS.ahead(r:RS)(n:Int):An:=
 if r.f=0 then if 0<n then r.t.extract r.p (r.p+min n.toNat (r.t.size - r.p))else vv else vv
def RS.fail(r:RS)(x:Int):RS:=if r.f=0 then⟨r.t,r.p,x⟩else r
def RS.Ok.of{t:An}(h:t.size<=9223372036854775807):(RS.of t).Ok:=⟨ko _,h⟩
def RS.Ok.take{r:RS}(h:r.Ok)(n:Int):(r.take n).1.Ok:=by
 obtain⟨C,A⟩:=h;unfold RS.take;split
 .split
  .exact⟨C,A⟩
  .split
   .exact⟨C,A⟩
   .exact⟨by simp only[];omega,A⟩
 .exact⟨C,A⟩
def RS.Ok.byte{r:RS}(h:r.Ok):r.byte.1.Ok:=by
 obtain⟨C,A⟩:=h;unfold RS.byte;split
 .split
  .exact⟨by simp only[];omega,A⟩
  .exact⟨C,A⟩
 .exact⟨C,A⟩
def RS.Ok.fail{r:RS}(h:r.Ok)(x:Int):(r.fail x).Ok:=by
 obtain⟨A,C⟩:=h;unfold RS.fail;split<;>exact⟨A,C⟩
def AO(b:Nat)(w:M)(r:RS)(v:jC):Ending->M->Prop:=λe w'=>e=nK v/\pX b w w'/\xg w' b r
def AP(t:An)(w:M):
  jG jy 144 #[G t] w λe w'=>e=nK (nG (U (Z w.heap.size 0 V)))/\jD w.heap.size w w'/\w.heap.size<w'.heap.size/\xg w' w.heap.size (RS.of t):=by
 go_in;go_wp2;go_returns;exact⟨rfl,(jE _ _).alloc (jB _) _,nX,nU.new _ _ _⟩
def VW(b:Nat)(r:RS)(w:M)(hb:xg w b r):
  jG jy 212 #[nG (U (Z b 0 V))] w λe w'=>e=nK (Y X r.p)/\w=w':=by
 obtain⟨t,p,f⟩:=r;have c:=nU.cell hb 1;simp[RS.cs]at c;go_in;go_wp2;go_returns;exact⟨rfl,rfl⟩
def qD(b:Nat)(r:RS)(w:M)(hb:xg w b r):
  jG jy 146 #[nG (U (Z b 0 V))] w λe w'=>e=nK (Y X r.f)/\w=w':=by
 obtain⟨t,p,f⟩:=r;have c:=nU.cell hb 2;simp[RS.cs]at c;go_in;go_wp2;go_returns;exact⟨rfl,rfl⟩
def Gg(b:Nat)(r:RS)(w:M)(A:r.Ok)(hb:xg w b r):
  jG jy 189 #[nG (U (Z b 0 V))] w λe w'=>e=nK (Y X ((r.t.size:Int) - r.p))/\∃k,w'=w.drewN k:=by
 obtain⟨t,p,f⟩:=r;obtain⟨C,E⟩:=A;simp only at C E;have c0:=nU.cell hb 0;have c1:=nU.cell hb 1;simp[RS.cs]at c0 c1;go_in;go_wp2;go_quiet (fail);go_wp2;go_returns;exact⟨rfl,_,rfl⟩
def Da{p:Prop}(h:p:=by
 rw[hw3]at HH hu3;have q0:=r2.cell 0;rw[hw3]at q0;clear r2 hb3;go_in;go_wp2_with fail;refine HH.mono ?_;rintro e w4 ⟨rfl,hu4,hb4,hq4⟩;have q4:=hq4.cell 0;simp at q4;go_wp2;go_returns;exact⟨rfl,hu4.upd hu3 K,hb4⟩):p:=h
def Ms{p:Prop}(h:p:=by
 go_in;go_wp2_with fail;refine(HH _).mono ?_;rintro e w4 ⟨rfl,rfl⟩;go_wp2;go_returns;exact⟨rfl,hu3,hb3⟩):p:=h
def Yw{p:Prop}(h:p:=by
 rw[hw3];have:=nU.new ((w.alloc (nL #[nG (U (Z b 0 V))] 193)).alloc (nL #[Y X n] 3)) #[G vv] 9;rw[World.size_alloc,World.size_alloc]at this;exact this):p:=h
def qJ(b:Nat)(r:RS)(n:Int)(w:M)(aa:r.Ok)(hb:xg w b r):
  jG jy 145 #[nG (U (Z b 0 V)),Y X n] w (AO b w (r.take n).1 (G (r.take n).2)):=by
 obtain⟨t,p,f⟩:=r;obtain⟨J,E⟩:=aa;simp only at J E;have hlt:=nU.lt hb;obtain⟨w3,hw3⟩:∃w3,w3=(((w.alloc (nL #[nG (U (Z b 0 V))] 193)).alloc (nL #[Y X n] 3)).alloc (nL #[G vv] 9)):=⟨_,rfl⟩;have hb3:xg w3 b ⟨t,p,f⟩:=by rw[hw3];exact((nU.alloc hb _).alloc _).alloc _
 have hu3:pX b w w3:=by rw[hw3];exact(((pX.refl b w).alloc _).alloc _).alloc _
 have r0:w3.cell? (Z w.heap.size 0 V)=U (nG (U (Z b 0 V))):=by rw[hw3];simp[go_sem]
 have r1:w3.cell? (Z (w.heap.size+1) 0 V)=U (Y X n):=by rw[hw3];simp[go_sem]
 have r2:nU w3 (w.heap.size+2) #[G vv] 9:=by
  exact Yw
 by_cases C:f=0
 .subst C
  by_cases hn:n<0
  .have e:RS.take ⟨t,p,0⟩ n=(⟨t,p,1⟩,vv):=by unfold RS.take;rw[AC rfl,AC hn]
   rw[e];clear e
   have ad:=C9 b (w.heap.size+2) t p p 1 #[nG (U (Z (w.heap.size+1) 0 V)),nG (U (Z w.heap.size 0 V)),nG (U (Z (w.heap.size+2) 0 V))] (λw'=>nU w' (w.heap.size+2) #[G (vv)] 9) w3 hb3
    (λw' i v h=>h.setOther nY v) ((Yu b _ _ _ n w3 hn r1).mono λe w' ⟨he,A⟩=>⟨he,A▸oW.refl _ _ _,A▸hb3,A▸r2⟩)
   have HH:=H ad;clear ad r0 r1;exact Da
  by_cases I:(t.size:Int) - p<n
  .have e:RS.take ⟨t,p,0⟩ n=(⟨t,p,2⟩,vv):=by unfold RS.take;rw[AC rfl,As hn,AC I]
   rw[e];clear e
   have ad:=C9 b (w.heap.size+2) t p p 2 #[nG (U (Z (w.heap.size+1) 0 V)),nG (U (Z w.heap.size 0 V)),nG (U (Z (w.heap.size+2) 0 V))] (λw'=>nU w' (w.heap.size+2) #[G (vv)] 9) w3 hb3
    (λw' i v h=>h.setOther nY v) ((VT b _ _ _ t p 0 n w3 J E K I hb3 r1 r0).mono λe w' ⟨he,k,A⟩=>⟨he,A▸(oW.refl _ _ _).drewN k,A▸hb3,A▸r2⟩)
   have HH:=H ad;clear ad r0 r1;exact Da
  obtain⟨m,rfl⟩:∃m:Nat,n=m:=⟨n.toNat,K⟩;have e:RS.take ⟨t,p,0⟩ m=(⟨t,p+m,0⟩,t.extract p (p+m)):=by unfold RS.take;rw[AC rfl,As hn,As I];rfl
  rw[e];clear e
  have ad:=C9 b (w.heap.size+2) t p (p+m) 0 #[nG (U (Z (w.heap.size+1) 0 V)),nG (U (Z w.heap.size 0 V)),nG (U (Z (w.heap.size+2) 0 V))] (λw'=>nU w' (w.heap.size+2) #[G (t.extract p (p+m))] 9) w3 hb3
   (λw' i v h=>h.setOther nY v) (a2y b _ _ _ t p m 0 w3 E K K K K hb3 r2 r1 r0)
  have HH:=H ad;clear ad r0 r1;exact Da
 .have e:RS.take ⟨t,p,f⟩ n=(⟨t,p,f⟩,vv):=by unfold RS.take;rw[As C]
  rw[e];have N:((f:Int)==0)=O:=by rw[beq_eq_false_iff_ne];exact C
  clear e;have HH:=H (λv=>DL b ⟨t,p,f⟩ v w3 N hb3);rw[hw3]at HH hu3 hb3;have q0:=r2.cell 0;rw[hw3]at q0;clear r2 r0 r1 C;exact Ms
def Mt(b:Nat)(r:RS)(n:Int)(w:M)(aa:r.Ok)(hb:xg w b r):
  jG jy 247 #[nG (U (Z b 0 V)),Y X n] w (AO b w r (G (r.ahead n))):=by
 obtain⟨t,p,f⟩:=r;obtain⟨I,J⟩:=aa;simp only at I J;have hlt:=nU.lt hb;obtain⟨w3,hw3⟩:∃w3,w3=(((w.alloc (nL #[nG (U (Z b 0 V))] 193)).alloc (nL #[Y X n] 3)).alloc (nL #[G vv] 9)):=⟨_,rfl⟩;have hb3:xg w3 b ⟨t,p,f⟩:=by rw[hw3];exact((nU.alloc hb _).alloc _).alloc _
 have hu3:pX b w w3:=by rw[hw3];exact(((pX.refl b w).alloc _).alloc _).alloc _
 have r0:w3.cell? (Z w.heap.size 0 V)=U (nG (U (Z b 0 V))):=by rw[hw3];simp[go_sem]
 have r1:w3.cell? (Z (w.heap.size+1) 0 V)=U (Y X n):=by rw[hw3];simp[go_sem]
 have r2:nU w3 (w.heap.size+2) #[G vv] 9:=by
  exact Yw
 by_cases A:f=0
 .subst A
  by_cases hn:0<n
  .have e:RS.ahead ⟨t,p,0⟩ n=t.extract p (p+min n.toNat (t.size - p)):=by unfold RS.ahead;rw[AC rfl,AC hn]
   rw[e];clear e;obtain⟨m,C⟩:∃m,m=min n.toNat (t.size - p):=⟨_,rfl⟩;rw[<-C]
   have ad:=Gf b (w.heap.size+2) t p p 0 #[nG (U (Z (w.heap.size+1) 0 V)),nG (U (Z w.heap.size 0 V)),nG (U (Z (w.heap.size+2) 0 V))] (λw'=>nU w' (w.heap.size+2) #[G (t.extract p (p+m))] 9) w3 hb3
    (λw' i v h=>h.setOther nY v) (Yv b _ _ _ t p m 0 n w3 J I hn C K hb3 r2 r1 r0)
   have HH:=H ad;clear ad r0 r1 C;exact Da
  have e:RS.ahead ⟨t,p,0⟩ n=vv:=by unfold RS.ahead;rw[AC rfl,As hn]
  rw[e];clear e
  have ad:=Gf b (w.heap.size+2) t p p 0 #[nG (U (Z (w.heap.size+1) 0 V)),nG (U (Z w.heap.size 0 V)),nG (U (Z (w.heap.size+2) 0 V))] (λw'=>nU w' (w.heap.size+2) #[G (vv)] 9) w3 hb3
   (λw' i v h=>h.setOther nY v) ((Q7 b _ _ _ n w3 hn r1).mono λe w' ⟨he,E⟩=>⟨he,E▸oW.refl _ _ _,E▸hb3,E▸r2⟩)
  have HH:=H ad;clear ad r0 r1;exact Da
 .have e:RS.ahead ⟨t,p,f⟩ n=vv:=by unfold RS.ahead;rw[As A]
  rw[e];have N:((f:Int)==0)=O:=by rw[beq_eq_false_iff_ne];exact A
  clear e;have HH:=H (λv=>DL b ⟨t,p,f⟩ v w3 N hb3);rw[hw3]at HH hu3 hb3;have q0:=r2.cell 0;rw[hw3]at q0;clear r2 r0 r1 A;exact Ms
def Ow(b:Nat)(r:RS)(w:M)(N:r.Ok)(hb:xg w b r):
  jG jy 224 #[nG (U (Z b 0 V))] w (AO b w r.byte.1 (Y .u8 r.byte.2)):=by
 obtain⟨t,p,f⟩:=r;obtain⟨I,C⟩:=N;simp only at I C;have hlt:=nU.lt hb;obtain⟨w3,hw3⟩:∃w3,w3=((w.alloc (nL #[nG (U (Z b 0 V))] 193)).alloc (nL #[Y .u8 0] 5)):=⟨_,rfl⟩;have hb3:xg w3 b ⟨t,p,f⟩:=by rw[hw3];exact(nU.alloc hb _).alloc _
 have hu3:pX b w w3:=by rw[hw3];exact((pX.refl b w).alloc _).alloc _
 have r0:w3.cell? (Z w.heap.size 0 V)=U (nG (U (Z b 0 V))):=by rw[hw3];simp[go_sem]
 have r2:nU w3 (w.heap.size+1) #[Y .u8 0] 5:=by
  rw[hw3];have:=nU.new (w.alloc (nL #[nG (U (Z b 0 V))] 193)) #[Y .u8 0] 5;rw[World.size_alloc]at this;exact this
 by_cases A:f=0
 .subst A
  by_cases hp:p<t.size
  .have e:RS.byte ⟨t,p,0⟩=(⟨t,p+1,0⟩,(t[p].toNat:Int)):=by unfold RS.byte;rw[AC rfl,dif_pos hp]
   rw[e];clear e
   have ad:=Ir b (w.heap.size+1) t p (p+1) 0 #[nG (U (Z w.heap.size 0 V)),nG (U (Z (w.heap.size+1) 0 V))] (λw'=>nU w' (w.heap.size+1) #[Y .u8 (t[p].toNat:Int)] 5) w3 hb3
    (λw' i v h=>h.setOther nY v) (a2z b _ _ t p 0 w3 C hp K K hb3 r2 r0)
   have HH:=H ad;clear ad r0;exact Da
  .have e:RS.byte ⟨t,p,0⟩=(⟨t,p,2⟩,0):=by unfold RS.byte;rw[AC rfl,dif_neg hp]
   rw[e];clear e
   have ad:=Ir b (w.heap.size+1) t p p 2 #[nG (U (Z w.heap.size 0 V)),nG (U (Z (w.heap.size+1) 0 V))] (λw'=>nU w' (w.heap.size+1) #[Y .u8 0] 5) w3 hb3
    (λw' i v h=>h.setOther nY v) ((VU b _ _ t p 0 w3 C I K hb3 r0).mono λe w' ⟨he,k,E⟩=>⟨he,E▸(oW.refl _ _ _).drewN k,E▸hb3,E▸r2⟩)
   have HH:=H ad;clear ad r0;exact Da
 .have e:RS.byte ⟨t,p,f⟩=(⟨t,p,f⟩,0):=by unfold RS.byte;rw[As A]
  rw[e];have J:((f:Int)==0)=O:=by rw[beq_eq_false_iff_ne];exact A
  clear e;have HH:=H (λv=>DL b ⟨t,p,f⟩ v w3 J hb3);rw[hw3]at HH hu3 hb3;clear r2 r0 A;exact Ms
def uO(b:Nat)(r:RS)(x:Int)(w:M)(hb:xg w b r):
  jG jy 191 #[nG (U (Z b 0 V)),Y X x] w (AO b w (r.fail x) (nJ #[])):=by
 obtain⟨t,p,f⟩:=r;have hb3:xg (w.alloc (nL #[Y X x] 36)) b ⟨t,p,f⟩:=nU.alloc hb _;have hu3:pX b w (w.alloc (nL #[Y X x] 36)):=(pX.refl b w).alloc _;have r0:(w.alloc (nL #[Y X x] 36)).cell? (Z w.heap.size 0 V)=U (Y X x):=by simp[go_sem]
 by_cases A:f=0
 .subst A
  have e:RS.fail ⟨t,p,0⟩ x=⟨t,p,x⟩:=AC rfl;rw[e]
  have ad:=Q8 b 0 t p p x #[nG (U (Z w.heap.size 0 V))] (λ_=>True) _ hb3 (λ_ _ _ _=>trivial)
   ((VV w.heap.size x _ r0).mono λe w' ⟨he,C⟩=>⟨he,C▸pX.refl _ _,C▸hb3,trivial⟩)
  have HH:=H ad;clear ad r0 e hb3;go_in;go_wp2_with fail;refine HH.mono ?_;rintro e w4 ⟨rfl,E,I,_⟩;go_wp2;go_returns;exact⟨rfl,hu3.trans E,I⟩
 .have e:RS.fail ⟨t,p,f⟩ x=⟨t,p,f⟩:=As A
  rw[e];have J:((f:Int)==0)=O:=by rw[beq_eq_false_iff_ne];exact A
  have HH:=H (λv=>DL b ⟨t,p,f⟩ v _ J hb3);clear e r0 A;exact Ms
end
section
def oC:List Ax->Nat->Nat->Nat×Nat×Nat
 |[],_,_=>(0,0,2)
 |b::r,i,n=>
  if i=9/\1<b.toNat\/0<i/\b.toNat=0 then(0,0,3)
  else if b.toNat<128 then(n+b.toNat % 128*128^i,i+1,0)
  else oC r (i+1) (n+b.toNat % 128*128^i)
def Mv(t:Nat×Nat×Nat):jC:=nJ #[Y nN t.1,Y X t.2.1,Y X t.2.2]
def Mw{a b c:Int}{x y z:Nat}(A:a=x)(C:b=y)(E:c=z):
  kZ (nJ #[Y nN a,Y X b,Y X c])=nK (Mv (x,y,z)):=by rw[A,C,E];rfl
def drop_at(s:An)(k:Nat)(h:k<s.size):s.data.toList.drop k=s[k]::s.data.toList.drop (k+1):=by
 have A:k<s.data.toList.length:=by simpa using h
 rw[nA A];rfl
def xI(s:An)(t:Nat×Nat×Nat)(k n:Nat):Prop:=n<128^k/\oC (s.data.toList.drop k) k n=t
def xI.start(s:An):xI s (oC s.data.toList 0 0) 0 0:=⟨nX,nX⟩
def xI.short{t:Nat×Nat×Nat}{k n:Nat}(h:xI s t k n)(hk:s.size<=k):t=(0,0,2):=by
 rw[<-h.2,List.drop_of_length_le (by simpa using hk)];rfl
def xI.form{t:Nat×Nat×Nat}{k n:Nat}(h:xI s t k n)(hk:k<s.size)(c:k=9/\1<s[k].toNat\/0<k/\s[k].toNat=0):t=(0,0,3):=by
 rw[<-h.2,drop_at s k hk,oC,AC c]
def xI.done{t:Nat×Nat×Nat}{k n:Nat}(h:xI s t k n)(hk:k<s.size)(c:¬(k=9/\1<s[k].toNat\/0<k/\s[k].toNat=0))(c2:s[k].toNat<128):t=(n+s[k].toNat % 128*128^k,k+1,0):=by
 rw[<-h.2,drop_at s k hk,oC,As c,AC c2]
def xI.step{t:Nat×Nat×Nat}{k n:Nat}(h:xI s t k n)(hk:k<s.size)(c:¬(k=9/\1<s[k].toNat\/0<k/\s[k].toNat=0))(c2:128<=s[k].toNat):xI s t (k+1) (n+s[k].toNat % 128*128^k):=by
 refine⟨?_,?_⟩
 .have A:=h.1
  have:s[k].toNat % 128<=127:=K;have C:=lY (128^k) this;rw[kV];omega
 .rw[<-h.2,drop_at s k hk,oC,As c,As K]
def Yx(k:Nat)(h:k<=9):128^k<=9223372036854775808:=
 jM (lG nT h) nT
def Uh(k:Nat)(h:k<=8):128^k<=72057594037927936:=
 jM (lG nT h) nT
def Yy(k b:Nat)(hk:k<=9)(A:k=9->b % 128<=1):b % 128*128^k+128^k<=18446744073709551616:=by
 have hp:=Yx k hk;by_cases h:k=9
 .have:=lY (128^k) (A h)
  omega
 .have C:=Uh k K
  have E:b % 128<=127:=K;have:=Nat.mul_le_mul E C;omega
def a2A(k n b p:Nat)(hk:k<=9)(hn:n<128^k)(hb:b<256)(A:k=9->b % 128<=1)(hp:p=128^k):
  IntKind.u64.wrap ((n:Int)+IntKind.u64.wrap ((b:Int) % 128*(p:Int)))=((n+b % 128*128^k:Nat):Int):=by
 have lt:=Yy k b hk A;subst hp
 rw[show((b:Int) % 128*((128^k:Nat):Int))=((b % 128*128^k:Nat):Int)from by rw[Int.natCast_mul];rfl,
  IntWalk.u64_in ((b % 128*128^k:Nat):Int) ⟨K,K⟩,<-Int.natCast_add,IntWalk.u64_in _ ⟨K,K⟩]
def a5L(k n b:Nat)(hk:k<=9)(hn:n<128^k)(hb:b<256)(C:k=9->b % 128<=1):
  bits BinOp.or IntKind.u64 (n:Int) (IntKind.u64.wrap (IntKind.u64.wrap (bits BinOp.and IntKind.u8 (b:Int) 127)*2^(7*k)))=
   ((n+b % 128*128^k:Nat):Int):=by
 have hp:=Yx k hk;have e1:bits BinOp.and IntKind.u8 (b:Int) 127=((b % 128:Nat):Int):=by
  rw[show(127:Int)=((127:Nat):Int)from rfl,u8_and_nat b 127 hb nT];congr 1;exact Nat.and_two_pow_sub_one_eq_mod b 7
 have e2:(2:Int)^(7*k)=((128^k:Nat):Int):=by
  rw[Int.pow_mul];simp
 have lt:b % 128*128^k+128^k<=18446744073709551616:=by
  by_cases h:k=9
  .have:=lY (128^k) (C h)
   omega
  .have E:128^k<=72057594037927936:=jM (lG nT (show k<=8 by omega)) nT
   have I:b % 128<=127:=K;have:=Nat.mul_le_mul I E;omega
 rw[e1,e2,IntWalk.u64_in ((b % 128:Nat):Int) ⟨K,K⟩,<-Int.natCast_mul,IntWalk.u64_in _ ⟨K,K⟩,
  u64_or_nat n (b % 128*128^k) K K]
 congr 1;have A:n<2^(7*k):=by rw[Nat.pow_mul];exact hn
 have:=mW A (b % 128);rw[Nat.pow_mul]at this;rw[Nat.or_comm,Nat.mul_comm,show(128:Nat)=2^7 from rfl,<-this,Nat.add_comm]
def ow(n:Nat):List Ax:=if h:n<128 then [jU n]else jU (n % 128+128)::ow (n/128)
termination_by n
decreasing_by omega
def rC(n:Nat)(h:n<128):ow n=[jU n]:=by rw[ow,dif_pos h]
def vP(n:Nat)(h:128<=n):ow n=jU (n % 128+128)::ow (n/128):=by rw[ow,dif_neg K]
def sQ:∀ k n:Nat,n<128^k->(ow n).length<=max 1 k
 |0,n,h=>by rw[rC n (by simp at h;omega)];simp
 |k+1,n,h=>by
  by_cases c:n<128;.rw[rC n c];simp
  .rw[vP n K]
   have:=sQ k (n/128) (by rw[kV]at h;omega);simp only[j4];have:k≠0:=by rintro rfl;simp at h;omega
   omega
def AQ(t l:List Ax)(m:Nat):Prop:=l++ow m=t/\t.length<=10
def AQ.start(n:Nat)(h:n<18446744073709551616):AQ (ow n) [] n:=by
 refine⟨rfl,?_⟩;have:=sQ 10 n (jZ h nT);omega
def AQ.le{t l:List Ax}{m:Nat}(h:AQ t l m):l.length+1<=10:=by
 have A:=congrArg List.length h.1;have C:=h.2;simp only[jK]at A;have:1<=(ow m).length:=by
  by_cases c:m<128;.rw[rC m c];simp
  .rw[vP m K];simp
 omega
def AQ.step{t l:List Ax}{m:Nat}(h:AQ t l m)(c:128<=m):AQ t (l++[jU (m % 128+128)]) (m/128):=by
 refine⟨?_,h.2⟩;rw[kX,<-h.1,vP m c];rfl
def AQ.done{t l:List Ax}{m:Nat}(h:AQ t l m)(c:m<128):l++[jU m]=t:=by
 rw[<-h.1,rC m c]
def a8q(m:Nat):bits BinOp.or IntKind.u8 ((m:Int) % 256) 128=((m % 128+128:Nat):Int):=by
 rw[show(m:Int) % 256=((m % 256:Nat):Int)from by omega,show(128:Int)=((128:Nat):Int)from rfl,u8_or_nat (m % 256) 128 K nT];congr 1;have key:∀a:Nat,a<256->a|||128=a % 128+128:=xH
 rw[key _ K];omega
def Q9(n:Nat):1<=(ow n).length:=by
 by_cases c:n<128;.rw[rC n c];simp
 .rw[vP n K];simp
def a5j{b:Ax}{n:Nat}(h:n=b.toNat):jU n=b:=by subst h;simp
def Ox:∀(r:List Ax)(i acc N am:Nat),i<=9->acc<128^i->oC r i acc=(N,am,0)->
  ∃m,N=acc+m*128^i/\N<18446744073709551616/\am=i+(ow m).length/\(0<i->0<m)/\ow m<+:r
 |[],i,acc,N,am,hi,E,h=>by simp[oC]at h
 |b::r,i,acc,N,am,hi,E,h=>by
  rw[oC]at h;by_cases c:i=9/\1<b.toNat\/0<i/\b.toNat=0;.rw[AC c]at h;simp at h
  .rw[As c]at h
   have hb:=b.toNat_lt;by_cases c2:b.toNat<128
   .rw[AC c2]at h
    simp only[Prod.mk.injEq]at h;have hlt:=Yy i b.toNat hi K;have e:b.toNat % 128=b.toNat:=K;rw[e]at h hlt;refine⟨b.toNat,h.1.symm,K,?_,K,?_⟩;.rw[rC _ c2];exact h.2.1.symm
    .rw[rC _ c2,a5j rfl];exact⟨r,rfl⟩
   .rw[As c2]at h
    have af:i<=8:=K;have A:acc+b.toNat % 128*128^i<128^(i+1):=by
     have:b.toNat % 128<=127:=K;have C:=lY (128^i) this;rw[kV];omega
    obtain⟨m,I,C,J,aa,ae⟩:=Ox r (i+1) _ N am K A h;have ag:=aa K;have e1:(b.toNat % 128+128*m) % 128+128=b.toNat:=K;have e2:(b.toNat % 128+128*m)/128=m:=K;have e3:ow (b.toNat % 128+128*m)=b::ow m:=by
     rw[vP _ K,e1,e2,a5j rfl]
    refine⟨b.toNat % 128+128*m,?_,C,?_,K,?_⟩
    .rw[I,kV,lT]
     have:m*(128^i*128)=128*m*128^i:=by rw[Nat.mul_comm (128^i) 128,<-Nat.mul_assoc,Nat.mul_comm m 128]
     omega
    .rw[e3,J];simp only[j4];omega
    .rw[e3];exact List.cons_prefix_cons.2 ⟨rfl,ae⟩
def qN{l:List Ax}{N am:Nat}(h:oC l 0 0=(N,am,0)):am<=l.length/\N<18446744073709551616/\ow N=l.take am/\am<=10:=by
 obtain⟨m,C,E,A,_,I⟩:=Ox l 0 0 N am K nX h;simp at C A;subst C;refine⟨by rw[A];exact I.length_le,E,?_,?_⟩;.rw[A];exact(List.prefix_iff_eq_take.1 I)
 .have:=sQ 10 N (jZ E nT)
  omega
def K3:∀(k m:Nat)(more:List Ax)(i acc:Nat),m<128^k->(0<i->0<m)->i<=9->m*128^i<18446744073709551616->
  oC (ow m++more) i acc=(acc+m*128^i,i+(ow m).length,0)
 |k,m,more,i,acc,A,C,hi,hlt=>by
  have I:i=9->m<=1:=by
   rintro rfl;by_cases c:m<=1;.exact c
   .have:=lY (128^9) (show 2<=m by omega)
    have h0:2*128^9=18446744073709551616:=xH;omega
  by_cases c:m<128
  .rw[rC m c,List.singleton_append,oC]
   have e:=AL m K;rw[e,As K,AC c,Nat.mod_eq_of_lt c];rfl
  .match k,A with
   |0,A=>simp at A;omega
   |k+1,A=>
   have E:i<=8:=K;rw[vP m K,List.cons_append,oC];have e:=AL (m % 128+128) K;rw[e,As K,As K];have e2:m/128*128^(i+1)=m/128*128*128^i:=by rw[kV,Nat.mul_comm (128^i) 128,<-Nat.mul_assoc]
   have e3:m*128^i=m/128*128*128^i+m % 128*128^i:=by rw[<-lT];congr 1;omega
   rw[K3 k (m/128) more (i+1) _ (by rw[kV]at A;omega) K K (by rw[e2];omega),e2];have e4:(m % 128+128) % 128=m % 128:=K;rw[e4];simp only[Prod.mk.injEq,j4,and_true];omega
def yt(n:Nat)(more:List Ax)(h:n<18446744073709551616):oC (ow n++more) 0 0=(n,(ow n).length,0):=by
 have:=K3 10 n more 0 0 (jZ h nT) K K (by simpa using h);simpa using this
def a5k{a b:An}(h:a.data.toList=b.data.toList):a=b:=by
 apply ByteArray.ext;exact Array.toList_inj.1 h
def o8(most:Int)(l:List Ax):Nat×Nat×Nat:=
 if(oC l 0 0).2.2=0 then if most<0\/most<((oC l 0 0).1:Int)then(0,0,5)else oC l 0 0 else(0,0,(oC l 0 0).2.2)
structure PF where
 id:Nat
 body:An
 n:Nat
 e:Nat
def PF.bad(e:Nat):PF:=⟨0,⟨#[]⟩,0,e⟩
def o5(most:Int)(s:An):PF:=
 if(o8 most s.data.toList).2.2=0 then
  if s.size<(o8 most s.data.toList).2.1+(o8 most s.data.toList).1 then .bad 2
  else
   (λi:An=>if(oC i.data.toList 0 0).2.2=0 then⟨(oC i.data.toList 0 0).1,i.extract (oC i.data.toList 0 0).2.1 i.size,(o8 most s.data.toList).2.1+(o8 most s.data.toList).1,0⟩else .bad 3)
    (s.extract (o8 most s.data.toList).2.1 ((o8 most s.data.toList).2.1+(o8 most s.data.toList).1))
 else .bad (o8 most s.data.toList).2.2
def ve(id:Nat)(b:An):An:=⟨(ow ((ow id).length+b.size)).toArray⟩++⟨(ow id).toArray⟩++b
def vw{l:List Ax}{n k:Nat}(h:o8 most l=(n,k,0)):oC l 0 0=(n,k,0)/\(n:Int)<=most/\k<=l.length/\k<=10:=by
 unfold o8 at h;split at h
 .rename_i h0
  split at h;.simp at h
  .rename_i A
   have hk:=qN h;rw[h]at A;simp only at A;exact⟨h,K,hk.1,hk.2.2.2⟩
 .rename_i h0
  simp only[Prod.mk.injEq]at h;exact absurd h.2.2 h0
def VX{l:List Ax}(h:(o8 most l).2.2≠0):o8 most l=(0,0,(o8 most l).2.2):=by
 unfold o8 at*;split
 .rename_i h0
  rw[AC h0]at h;split;.rfl
  .rename_i A
   rw[As A]at h;exact absurd h0 h
 .rfl
def AR(h:(o8 most s.data.toList).2.2≠0):o5 most s=.bad (o8 most s.data.toList).2.2:=by unfold o5;rw[As h]
def Iu{n k:Nat}(h:o8 most s.data.toList=(n,k,0))(A:s.size<k+n):o5 most s=.bad 2:=by
 unfold o5;rw[h,AC rfl,AC A]
def Iw{n k:Nat}(h:o8 most s.data.toList=(n,k,0))(C:k+n<=s.size)(A:(oC (s.extract k (k+n)).data.toList 0 0).2.2≠0):o5 most s=.bad 3:=by
 unfold o5;rw[h,AC rfl,As (show¬s.size<k+n by omega)];show(if _ then _ else _)=_;rw[As A]
def Iy{n k id z:Nat}(h:o8 most s.data.toList=(n,k,0))(C:k+n<=s.size)(A:oC (s.extract k (k+n)).data.toList 0 0=(id,z,0)):
  o5 most s=⟨id,(s.extract k (k+n)).extract z n,k+n,0⟩:=by
 unfold o5;rw[h,AC rfl,As (show¬s.size<k+n by omega)];show(if _ then _ else _)=_;rw[A,AC rfl,jP,show min (k+n) s.size - k=n by omega]
def EY(id:Nat)(b:An):(ve id b).data.toList=ow ((ow id).length+b.size)++(ow id++b.data.toList):=by
 unfold ve;simp
def EZ(id:Nat)(b:An):(ve id b).size=(ow ((ow id).length+b.size)).length+((ow id).length+b.size):=by
 unfold ve;rw[ByteArray.size_append,ByteArray.size_append,size_mk (ow ((ow id).length+b.size)),size_mk (ow id)];omega
def a2B(a b:An)(i j:Nat)(x y z:List Ax)(h:a.data.toList=x++(y++z))(hi:i=x.length)(A:j=x.length+y.length):(a.extract i j).data.toList=y:=by
 rw[mF,h,hi,A,List.drop_left,show x.length+y.length - x.length=y.length by omega,List.take_left]
def VY(most:Int)(id:Nat)(b more:An)(hid:id<18446744073709551616)(hb:(((ow id).length+b.size:Nat):Int)<=most)(J:b.size<=9223372036854775807):
  o5 most (ve id b++more)=⟨id,b,(ve id b).size,0⟩:=by
 have hl:=sQ 10 id (jZ hid nT);have A:(ve id b++more).data.toList=ow ((ow id).length+b.size)++((ow id++b.data.toList)++more.data.toList):=by
  rw[ByteArray.data_append,Array.toList_append,EY];simp
 have hn:=yt ((ow id).length+b.size) ((ow id++b.data.toList)++more.data.toList) K;rw[<-A]at hn;have hs:o8 most (ve id b++more).data.toList=((ow id).length+b.size,(ow ((ow id).length+b.size)).length,0):=by
  unfold o8;rw[hn,AC rfl,As (by simp only;omega)]
 have hsz:(ow ((ow id).length+b.size)).length+((ow id).length+b.size)<=(ve id b++more).size:=by rw[ByteArray.size_append,EZ];omega
 have C:b.data.toList.length=b.size:=(l9 b).symm
 have E:((ve id b++more).extract (ow ((ow id).length+b.size)).length ((ow ((ow id).length+b.size)).length+((ow id).length+b.size))).data.toList=ow id++b.data.toList:=
  a2B _ b _ _ _ _ _ A rfl (by rw[jK,C])
 have I:oC ((ve id b++more).extract (ow ((ow id).length+b.size)).length ((ow ((ow id).length+b.size)).length+((ow id).length+b.size))).data.toList 0 0=(id,(ow id).length,0):=by
  rw[E];exact yt id _ hid
 rw[Iy hs hsz I,EZ];congr 1;apply a5k;rw[mF,E,List.drop_left,kS K]
def K4{id n:Nat}{b:An}(h:o5 most s=⟨id,b,n,0⟩):n<=s.size/\id<18446744073709551616/\(ow id).length+b.size<=n/\ve id b=s.extract 0 n:=by
 by_cases h0:(o8 most s.data.toList).2.2=0
 .obtain⟨⟨m,k,e⟩,hp⟩:∃t,o8 most s.data.toList=t:=⟨_,rfl⟩
  rw[hp]at h0;simp only at h0;subst h0;have hk:=(vw hp).1;have aa:=qN hk;by_cases af:s.size<k+m;.rw[Iu hp af]at h;simp[PF.bad]at h
  .by_cases C:(oC (s.extract k (k+m)).data.toList 0 0).2.2=0
   .obtain⟨⟨ae,z,e⟩,N⟩:∃t,oC (s.extract k (k+m)).data.toList 0 0=t:=⟨_,rfl⟩
    rw[N]at C;simp only at C;subst C;rw[Iy hp K N]at h;simp only[PF.mk.injEq,and_true]at h;obtain⟨rfl,rfl,rfl⟩:=h;have E:=qN N;have A:(s.extract k (k+m)).data.toList.length=m:=by rw[<-l9,jP];omega
    rw[A]at E;have I:((s.extract k (k+m)).extract z m).size=m - z:=by rw[jP,jP];omega
    have J:(ow ae).length=z:=by rw[E.2.2.1,kD,A];omega
    refine⟨K,E.2.1,by rw[I,J];omega,?_⟩;apply a5k;rw[EY,I,J,show z+(m - z)=m by omega,aa.2.2.1,mF ((s.extract k (k+m))) z m,E.2.2.1];have e2:List.take (m - z) (List.drop z (s.extract k (k+m)).data.toList)=List.drop z (s.extract k (k+m)).data.toList:=kS (by rw[kG,A];omega);rw[e2,mO,mF,mF,mM,Nat.sub_zero,show k+m - k=m by omega,<-List.take_add]
   .rw[Iw hp K C]at h;simp[PF.bad]at h
 .rw[AR h0]at h
  simp only[PF.bad,PF.mk.injEq]at h;exact absurd h.2.2.2 h0
end
section
open Go.RowKit
def Ui{p:Prop}(h:p:=by
 clear c c2;go_wp2;go_round;case rel=>exact⟨k+1,_,K,K,by go_num,by rw[hor.out],hs'⟩
 case measure=>simp[kC];omega):p:=h
def Yz{p:Prop}(h:p:=by
 have ht:=H (hv.done hlt c c2);by_cases d1:k=9
 .have c1:((k:Int)==9)=R:=Ot
  have c5:s[k].toNat<=1:=K;have c3:((s[k].toNat:Int)==0)=O:=vo;have c4:0<k:=K;clear c d1;go_wp2;go_returns;exact⟨by rw[ht.out];exact Mw hor rfl rfl,rfl⟩
 .have c1:((k:Int)==9)=O:=vo
  by_cases d2:0<k
  .have c3:((s[k].toNat:Int)==0)=O:=vo
   clear c d1;go_wp2;go_returns;exact⟨by rw[ht.out];exact Mw hor rfl rfl,rfl⟩
  .clear c d1
   go_wp2;go_returns;exact⟨by rw[ht.out];exact Mw hor rfl rfl,rfl⟩):p:=h
def YA{p:Prop}(h:p:=by
 have ht:=H (hv.form hlt c);by_cases d:k=9
 .have c1:((k:Int)==9)=R:=Ot
  by_cases c2:1<s[k].toNat
  .clear c d
   go_wp2;go_returns;exact⟨by rw[ht.out];rfl,rfl⟩
  .have c3:((s[k].toNat:Int)==0)=R:=Ot
   have c4:0<k:=K;clear c d;go_wp2;go_returns;exact⟨by rw[ht.out];rfl,rfl⟩
 .have c1:((k:Int)==9)=O:=vo
  have c3:((s[k].toNat:Int)==0)=R:=Ot;have c4:0<k:=K;clear c d;go_wp2;go_returns;exact⟨by rw[ht.out];rfl,rfl⟩):p:=h
def DN(s:An)(w:M)(hs:s.size<=jN):
  jG jy 126 #[G s] w λe w'=>e=nK (Mv (oC s.data.toList 0 0))/\w=w':=by
 unfold jN at hs;have I:=xI.start s;generalize oC s.data.toList 0 0=t at*;go_in
 obtain⟨m,J,N,hm2,A⟩:∃m:Nat,(if(10:Int)<(s.size:Int)then 10 else(s.size:Int))=(m:Int)/\m<=s.size/\m<=10/\(s.size<=m\/10<=m):=
  ⟨min s.size 10,by split<;>omega,K,K,K⟩
 have C:=H A;clear A;go_wp2
 .clear J
  go_loop [5,11] (λacc i=>∃k n:Nat,k<=s.size/\k<=9/\i=Y X k/\acc=Y nN n/\xI s t k n) (λ_ i=>10 -(kC i).toNat);case atStart=>exact⟨0,0,K,K,rfl,rfl,I⟩
  case round=>
   obtain⟨k,n,hk,E,rfl,rfl,hv⟩:=hrel;by_cases aa:k<m
   .have hlt:k<s.size:=K
    have hb:s[k].toNat<=255:=by have:=s[k].toNat_lt;omega
    by_cases c:k=9/\1<s[k].toNat\/0<k/\s[k].toNat=0;.exact YA
    .have hor:=H (a5L k n s[k].toNat E hv.1 K K)
     by_cases c2:s[k].toNat<128;.exact Yz
     .have c4:128<=s[k].toNat:=K
      have hs':=hv.step hlt c c4;have c1:((k:Int)==9)=O:=vo;have ae:k<=8:=K;by_cases d2:0<k
      .have c3:((s[k].toNat:Int)==0)=O:=vo
       exact Ui
      .exact Ui
   .go_wp2
    go_returns;exact⟨by rw[hv.short (by have:=C.out;omega)];rfl,rfl⟩
end
section
def vL:Nat->Nat->List Ax
 |0,_=>[]
 |k+1,n=>jU (n % 256)::vL k (n/256)
def pQ:List Ax->Nat
 |[]=>0
 |b::r=>b.toNat+256*pQ r
def AB(n:Nat):List Ax:=if h:n=0 then []else jU (n % 256)::AB (n/256)
termination_by n
decreasing_by omega
def tH:AB 0=[]:=by rw[AB,dif_pos rfl]
def xh(n:Nat)(h:0<n):AB n=jU (n % 256)::AB (n/256):=by rw[AB,dif_neg K]
@[simp] theorem pY:∀ k n:Nat,(vL k n).length=k
 |0,_=>rfl
 |k+1,n=>by simp[vL,pY k]
def u8n(n:Nat)(h:n<256):(jU n).toNat=n:=by
 show n % 256=n;exact Nat.mod_eq_of_lt h
def Oy:∀ k n:Nat,vL (k+1) n=vL k n++[jU (n/256^k % 256)]
 |0,n=>by simp[vL]
 |k+1,n=>by
  rw[vL,Oy k (n/256),vL,Nat.div_div_eq_div_mul,kV,Nat.mul_comm 256];rfl
def Iz:∀ k n:Nat,n<256^k->pQ (vL k n)=n
 |0,n,h=>by simp at h;subst h;rfl
 |k+1,n,h=>by
  rw[vL,pQ,u8n _ K,Iz k (n/256) (by rw[kV]at h;omega)];omega
def sZ:∀ l:List Ax,pQ l<256^l.length
 |[]=>by simp[pQ]
 |b::r=>by
  have:=sZ r;have hb:=b.toNat_lt;rw[pQ,j4,kV];omega
def u8e{b:Ax}{n:Nat}(h:n=b.toNat):jU n=b:=by subst h;simp
def AU:∀ l:List Ax,vL l.length (pQ l)=l
 |[]=>rfl
 |b::r=>by
  have hb:=b.toNat_lt;rw[pQ,j4,vL,u8e (b:=b) K,show(b.toNat+256*pQ r)/256=pQ r by omega,AU r]
def AV:∀ l m:List Ax,pQ (l++m)=pQ l+256^l.length*pQ m
 |[],m=>by simp[pQ]
 |b::r,m=>by
  rw[List.cons_append,pQ,pQ,AV r m,j4,kV,Nat.mul_comm (256^r.length) 256,Nat.mul_assoc];omega
def AX:∀ k n:Nat,n<256^k->(AB n).length<=k
 |0,n,h=>by simp at h;subst h;simp[tH]
 |k+1,n,h=>by
  by_cases c:n=0;.subst c;simp[tH]
  .rw[xh n K,j4]
   have:=AX k (n/256) (by rw[kV]at h;omega);omega
def Mx:∀ k n:Nat,n<256^k->vL k n=AB n++ky (k -(AB n).length) 0
 |0,n,h=>by simp at h;subst h;simp[tH,vL]
 |k+1,n,h=>by
  by_cases c:n=0
  .subst c
   have:=Mx k 0 (Nat.pow_pos nT);simp only[tH,List.nil_append,List.length_nil,Nat.sub_zero]at this|-;rw[vL,this];rfl
  .rw[xh n K,vL,Mx k (n/256) (by rw[kV]at h;omega),j4,List.cons_append,Nat.add_sub_add_right]
def Oz(n:Nat):pQ (AB n)=n:=by
 induction n using Nat.strongRecOn with
 |_ n A=>
  by_cases c:n=0;.subst c;simp[tH,pQ]
  .rw[xh n K,pQ,A (n/256) K,u8n _ K];omega
def a2C(k n:Nat):(AB n).length<=k<->n<256^k:=by
 refine⟨λh=> ?_,AX k n⟩;have:=sZ (AB n);rw[Oz]at this;exact jZ this (lG nT h)
def a5M(n:Nat):AB n=vL (AB n).length n:=by
 have:=Mx (AB n).length n ((a2C _ _).1 (jB _));simpa using this.symm
def OA:∀(l:List Ax)(b:Ax),b.toNat≠0->AB (pQ (l++[b]))=l++[b]
 |[],b,h=>by
  have hb:=b.toNat_lt;simp only[List.nil_append,pQ,Nat.mul_zero,nk];rw[xh _ K,show b.toNat/256=0 by omega,tH,u8e (b:=b) K]
 |a::r,b,h=>by
  have A:=OA r b h;have C:=a.toNat_lt;have h0:0<pQ (r++[b]):=by
   rw[AV,pQ,pQ];have:=Nat.pow_pos (n:=r.length) (show 0<256 by decide);have:=Nat.mul_pos this (show 0<b.toNat+256*0 by omega);omega
  rw[List.cons_append,pQ,xh _ K,show(a.toNat+256*pQ (r++[b]))/256=pQ (r++[b])by omega,A,u8e (b:=a) K]
def YB(n:Nat)(h:0<n):∃l b,AB n=l++[b]/\b.toNat≠0:=by
 induction n using Nat.strongRecOn with
 |_ n A=>
  by_cases c:n<256
  .refine⟨[],jU n,?_,by rw[u8n n c];omega⟩
   rw[xh n h,show n/256=0 by omega,tH,Nat.mod_eq_of_lt c];rfl
  .obtain⟨l,b,C,E⟩:=A (n/256) K K
   exact⟨jU (n % 256)::l,b,by rw[xh n h,C];rfl,E⟩
def tX(l:List Ax):Nat:=pQ l.reverse
def K5(l:List Ax)(b:Ax):tX (l++[b])=256*tX l+b.toNat:=by
 unfold tX;rw[List.reverse_append];simp[pQ];omega
def Hg(l:List Ax):tX l<256^l.length:=by
 have:=sZ l.reverse;rwa [List.length_reverse]at this
def VZ(l:List Ax)(b:Ax):pQ (l++[b])=pQ l+256^l.length*b.toNat:=by
 rw[AV];simp[pQ]
end
section
open Go.RowKit
def Cr:qj jy 86 5 9:=⟨lq,Tryz.underlying5,lU,nV⟩
def Ra(k:Nat):(2:Int)^(8*k)=((256^k:Nat):Int):=by
 rw[Int.pow_mul];simp
def a2D(n k:Nat)(w:M)(hn:n<18446744073709551616)(A:1<=k)(C:k<=8)(h:n<256^k):
  jG jy 178 #[Y nN n,Y X k] w λe w'=>e=nK (Y X 0)/\w=w':=by
 have hb:(((n:Int)/2^(8*k)) !=0)=O:=by
  rw[Ra,bne_eq_false_iff_eq,<-Int.natCast_ediv,Nat.div_eq_of_lt h];rfl
 clear h;go_in;go_wp2;go_returns;exact⟨rfl,rfl⟩
def yP(k j n:Nat):List jC:=oh (vL j n)++ky (k - j) (Y .u8 0)
def OB(k j n:Nat)(h:j<k):(yP k j n).set j (Y .u8 ((n/256^j % 256:Nat):Int))=yP k (j+1) n:=by
 unfold yP;rw[Oy,pI,List.set_append_right _ _ nX,show k - j=(k -(j+1))+1 by omega,List.replicate_succ];simp[oh,u8n _ (Nat.mod_lt (n/256^j) (show 0<256 by decide))]
def OC(k n:Nat):(oh (vL k n)).length=k:=nX
def Rb(k j n:Nat)(h:j<k):(yP k j n)[j]? =U (Y .u8 0):=by
 unfold yP;rw[mZ nX,OC,List.getElem?_replicate,AC K]
def IA(n k:Nat)(w:M)(hn:n<18446744073709551616)(au:k<=8):
  jG jy 179 #[Y nN n,Y X k] w λe w'=>e=nK (u (U (Z w.heap.size 0 V)) k k)/\
   oI w' w.heap.size 5 (u (U (Z w.heap.size 0 V)) k k) (vL k n)/\jD w.heap.size w w':=by
 obtain⟨ai,hi,aa,ae,af⟩:=info_parts Cr.hi;obtain⟨B,hB⟩:=og w.heap.size;have E:B<=w.heap.size:=K;rw[hB];go_in;go_wp2_with (refine wpList_make_full _ rfl (.tmp 7) (.tmp 7) 86 rfl B 5 ai (.int .u8 0) 1 lq hi aa ae .i64 .i64 k k k rfl rfl rfl rfl (by rw[af];omega) xe E ?_;intro w1 A C);rw[hB]at A;have ag:jI ((madeCells (lC .u8 0).cells (k*1)).toList=yP k 0 n):=by
  unfold jI yP;rw[show(lC .u8 0).cells=#[Y .u8 0]from rfl,toList_madeCells_one];simp[vL,oh]
 rw[ag.out]at A;have N:jD B w w1:=(jE _ _).grown C E (λ_ h=>by cases h);go_loopw [10] (λi wr=>∃j:Nat,j<=k/\i=Y X j/\wr.ownsRow B 5 1 (u (U (Z B 0 V)) k k) k (yP k j n)/\jD B w wr) (λi _=>k -(kC i).toNat);case atStart=>exact⟨0,K,rfl,A,N⟩
 case round=>
  obtain⟨j,av,rfl,ho,I⟩:=hrel;by_cases c:j<k
  .have ah:wr.cell? (Z B j V)=U (Y .u8 0):=by rw[ho.cellAt j K,Rb k j n c]
   have ak:=ho.frozenAt j;have aj:jI (((n:Int)/2^(8*j) % 256)=((n/256^j % 256:Nat):Int)):=by unfold jI;rw[Ra];rfl
   have J:=ho.stored j (Y .u8 ((n/256^j % 256:Nat):Int));rw[OB k j n c]at J;go_wp2;go_roundw;case rel=>rw[aj.out];exact⟨j+1,K,by go_num,J.1,I.setCell (p:=(Z B j V)) (jB _) _⟩
   case measure=>simp[kC];omega
  .obtain rfl:j=k:=K
   go_wp2;go_returns;refine⟨rfl,?_,I⟩;have e:yP j j n=oh (vL j n):=by unfold yP;simp
   unfold oI;rw[pY,<-e];exact ho
def vQ(n k:Nat)(w:M)(hn:n<18446744073709551616)(C:1<=k)(A:k<=8)(h:n<256^k):
  jG jy 129 #[Y nN n,Y X k] w λe w'=>e=nK (nJ #[G ⟨(vL k n).toArray⟩,Y X 0])/\jD w.heap.size w w':=by
 have c1:=H (a2D n k w hn C A h);have c2:=H (IA n k w hn A);clear h;go_in;go_wp2_with fail;refine c1.mono ?_;rintro e w' ⟨rfl,rfl⟩;go_wp2_with fail;refine c2.mono ?_;rintro e w1 ⟨rfl,ho,hb⟩;have E:=ho.string Cr;go_wp2;go_returns;exact⟨rfl,hb⟩
def zG{p:Prop}(h:p:=by
 go_wp2;go_returns;exact⟨rfl,rfl⟩):p:=h
def Kr(w:M):jG jy 127 #[Y X 0] w λe w'=>e=nK (Y X 1)/\w=w':=by
 go_in;exact zG
def Kt(k:Nat)(w:M)(h:8<k):jG jy 127 #[Y X k] w λe w'=>e=nK (Y X 5)/\w=w':=by
 have h0:((k:Int)==0)=O:=vo;go_in;exact zG
def Gh(k:Nat)(w:M)(A:1<=k)(h:k<=8):jG jy 127 #[Y X k] w λe w'=>e=nK (Y X 0)/\w=w':=by
 have h0:((k:Int)==0)=O:=vo;go_in;exact zG
def a5N(n b j:Nat)(C:j<=7)(hn:n<256^j)(hb:b<256):
  bits BinOp.or IntKind.u64 (n:Int) (IntKind.u64.wrap ((b:Int)*2^(8*j)))=((n+256^j*b:Nat):Int):=by
 have hp:256^j<=72057594037927936:=jM (lG nT C) nT;have E:=Nat.mul_le_mul (show b<=255 by omega) hp;rw[Ra,<-Int.natCast_mul,IntWalk.u64_in _ ⟨K,K⟩,u64_or_nat n (b*256^j) K K];congr 1;have A:n<2^(8*j):=by rw[Nat.pow_mul];exact hn
 have:=mW A b;rw[Nat.pow_mul]at this;rw[Nat.or_comm,Nat.mul_comm,show(256:Nat)=2^8 from rfl,<-this,Nat.add_comm]
def MB(s:An)(k:Nat)(h:k<s.size):s.data.toList.take (k+1)=s.data.toList.take k++[s[k]]:=by
 rw[List.take_succ_eq_append_getElem (by simpa using h)];rfl
def IB(k:Nat)(h:k<=8):256^k<=18446744073709551616:=jM (lG nT h) nT
def Uj{p:Prop}(h:p:=by
 go_wp2_with fail;go_round;case rel=>exact⟨k+1,_,K,by go_num,by rw[hor.out],hnx⟩
 case measure=>simp[kC];omega):p:=h
def Rc{p:Prop}(h:p:=by
 obtain rfl:k=s.size:=K;go_wp2;go_returns;exact⟨by rw[hv.out,kS nX];rfl,rfl⟩):p:=h
def um(s:An)(w:M)(C:1<=s.size)(E:s.size<=8):
  jG jy 93 #[G s] w λe w'=>e=nK (nJ #[Y nN (pQ s.data.toList),Y X 0])/\w=w':=by
 have c1:=H (Gh s.size w C E);go_in;go_wp2_with fail;refine c1.mono ?_;rintro e w' ⟨rfl,rfl⟩;go_wp2_with fail;go_loop [5,15] (λacc i=>∃k n:Nat,k<=s.size/\i=Y X k/\acc=Y nN n/\jI (n=pQ (s.data.toList.take k))) (λ_ i=>s.size -(kC i).toNat);case atStart=>exact⟨0,0,K,rfl,rfl,by simp[pQ,jI]⟩
 case round=>
  obtain⟨k,n,hk,rfl,rfl,hv⟩:=hrel;by_cases c:k<s.size
  .have hb:s[k].toNat<=255:=by have:=s[k].toNat_lt;omega
   have A:(s.data.toList.take k).length=k:=by rw[kD];simp;omega
   have hn:n<256^k:=by have:=sZ (s.data.toList.take k);rw[A]at this;rw[hv.out];exact this
   have hor:=H (a5N n s[k].toNat k K hn K);have hnx:jI (n+256^k*s[k].toNat=pQ (s.data.toList.take (k+1))):=by unfold jI;rw[MB s k c,VZ,hv.out,A]
   clear hn A;exact Uj
  .exact Rc
def xJ(s:An)(w:M)(h:s.size=0):
  jG jy 93 #[G s] w λe w'=>e=nK (nJ #[Y nN 0,Y X 1])/\w=w':=by
 have c1:=H (Kr w);go_in;go_wp2_with fail;refine c1.mono ?_;rintro e w' ⟨rfl,rfl⟩;go_wp2;go_returns;exact⟨rfl,rfl⟩
def Db(s:An)(w:M)(h:8<s.size):
  jG jy 93 #[G s] w λe w'=>e=nK (nJ #[Y nN 0,Y X 5])/\w=w':=by
 have c1:=H (Kt s.size w h);go_in;go_wp2_with fail;refine c1.mono ?_;rintro e w' ⟨rfl,rfl⟩;go_wp2;go_returns;exact⟨rfl,rfl⟩
def tJ(l:List Ax):Nat×Nat×Nat:=
 if(oC l 0 0).2.2=0 then if 4294967295<(oC l 0 0).1 then(0,0,5)else oC l 0 0 else(0,0,(oC l 0 0).2.2)
def xK{p:Prop}(h:p:=by
 go_in;go_wp2_with fail;refine(C1 _).mono ?_;rintro e w' ⟨rfl,rfl⟩;go_wp2;go_returns;exact⟨rfl,rfl⟩):p:=h
def V3(s:An)(w:M)(hs:s.size<=jN):
  jG jy 188 #[G s] w λe w'=>e=nK (nJ #[Y X (tJ s.data.toList).1,Y X (tJ s.data.toList).2.1,Y X (tJ s.data.toList).2.2])/\w=w':=by
 have c1:=λw=>DN s w hs
 have hp:tJ s.data.toList=if(oC s.data.toList 0 0).2.2=0 then if 4294967295<(oC s.data.toList 0 0).1 then(0,0,5)else oC s.data.toList 0 0 else(0,0,(oC s.data.toList 0 0).2.2):=rfl
 have hlt:=λN am h=>(qN (l:=s.data.toList) (N:=N) (am:=am) h).2.1
 unfold jN at hs;generalize tJ s.data.toList=r at*;generalize oC s.data.toList 0 0=t at*;obtain⟨n,k,e⟩:=t;have C1:jI (∀w,jG jy 126 #[G s] w λC w'=>C=nK (nJ #[Y nN n,Y X k,Y X e])/\w=w'):=c1;clear c1;by_cases he:e=0
 .subst he
  have hn:=hlt n k rfl;clear hlt;rw[AC rfl]at hp;by_cases A:4294967295<n
  .rw[AC A]at hp
   subst hp;exact xK
  .rw[As A]at hp
   subst hp;have J:n<=4294967295:=K;clear A;exact xK
 .rw[As he]at hp
  subst hp;have E:((e:Int)==0)=O:=vo;have I:((e:Int) !=0)=R:=EX;clear he hlt;exact xK
def K6{l:List Ax}{n k:Nat}(h:tJ l=(n,k,0)):k<=l.length/\n<=4294967295:=by
 unfold tJ at h;split at h
 .rename_i h0
  split at h;.cases h
  .rename_i A
   have:=qN (l:=l) (N:=n) (am:=k) (by rw[h]);rw[h]at A;exact⟨K,by simpa using A⟩
 .rename_i h0
  injection h with _ h
  injection h with _ h
  exact absurd h h0
def uG(r:RS)(n:Int):Nat:=pQ (r.take n).2.data.toList
def take_size(r:RS)(n:Nat):(r.take n).2.size<=n:=by
 unfold RS.take;split
 .split
  .exact ko _
  .split
   .exact ko _
   .simp[jP];omega
 .exact ko _
def MC(r:RS)(n:Nat)(h:n<=8):(r.take n).2.size=0\/(1<=(r.take n).2.size/\(r.take n).2.size<=8):=by
 have:=take_size r n;omega
def ME{p:Prop}(h:p:=by
 exact jZ h1 (jM (lG nT h2) nT)):p:=h
def OD(b ae:Nat)(r:RS)(x:Int)(n:Nat)(w:M)(af:r.Ok)(hb:xg w b r)(c0:w.cell? (Z ae 0 V)=U (nG (U (Z b 0 V))))(aj:x=n)(hn:n<=4):
  jG jy 223 #[Y X x,nG (U (Z ae 0 V))] w (AO b w (r.take x).1 (Y X (uG r x:Nat))):=by
 subst aj;have ak:=H (qJ b r n w af hb);have hlt:uG r n<4294967296:=by
  have h1:=sZ (r.take n).2.data.toList;have h2:(r.take n).2.data.toList.length<=4:=by
   rw[kH];have:=take_size r n;show(r.take n).2.size<=4;omega
  exact ME
 have ag:=MC r n K;have A:=λw h1 I=>um (r.take n).2 w h1 I
 have C:=λw h=>xJ (r.take n).2 w h
 have J:uG r n=pQ (r.take n).2.data.toList:=rfl;generalize uG r n=au at*;generalize (r.take n).2=T at*;generalize (r.take n).1=r' at*;have N:∀w,jG jy 93 #[G T] w λe w'=>(∃er:Int,e=nK (nJ #[Y nN (au:Nat),Y X er]))/\w=w':=λw=>by
  rcases ag with h0|⟨h1,I⟩
  .have:au=0:=by rw[J,List.eq_nil_of_length_eq_zero (show T.data.toList.length=0 by simpa using h0)];rfl
   subst this;exact(C w h0).mono λe w' ⟨h,aa⟩=>⟨⟨_,h⟩,aa⟩
  .rw[J]
   exact(A w h1 I).mono λe w' ⟨h,aa⟩=>⟨⟨_,h⟩,aa⟩
 have N:=H N;clear ag A C J af;unfold AO at*;go_in;go_wp2_with fail;refine ak.mono ?_;rintro e w2 ⟨rfl,ah,E⟩;have ai:=H (jF ah E);clear ah E;go_wp2_with fail;refine(N _).mono ?_;rintro e w3 ⟨⟨er,rfl⟩,rfl⟩;go_wp2;go_returns;exact⟨rfl,ai.1,ai.2⟩
abbrev xz:jX:=5
abbrev Yg:jX:=86
def own_ne{w:M}{B b:Nat}{v:jC}{l:List Ax}{cs:Array jC}{t:jX}(h:oI w B xz v l)(hb:nU w b cs t)(ht:t≠xz):v.ownBlock≠U b:=by
 intro e;rcases h.2 with⟨rfl,_⟩|⟨g,cap,C,rfl,hg,A,_⟩
 .simp[kz]at e
 .simp only[kz,mI]at e
  subst e;unfold nU at hb;rw[A]at hb;simp at hb;exact ht hb.2.symm
def rO(k v:Nat)(r:RS):RS×Nat×Nat:=
 if k=0 then if 60<=v then((r.take ((v:Int) - 59)).1,uG r ((v:Int) - 59)+1,0)else(r,v+1,0)
 else if k=1 then((r.take 1).1,4+v % 8,v/8*256+uG r 1)
 else if k=2 then((r.take 2).1,v+1,uG r 2)
 else((r.take 4).1,v+1,uG r 4)
def vz:Nat->Nat->Nat->List Ax->List Ax
 |0,_,_,l=>l
 |f+1,n,A,l=>if n=0 then l else vz f (n - min n A) A (l++(l.drop (l.length - A)).take (min n A))
def tK(k:Nat)(h:RS×Nat×Nat)(l:List Ax)(size:Nat):RS×List Ax:=
 if h.1.f≠0 then(h.1,l)
 else if(k≠0/\(h.2.2=0\/l.length<h.2.2))\/size - l.length<h.2.1 then(h.1.fail 3,l)
 else if k=0 then((h.1.take (h.2.1:Nat)).1,l++(h.1.take (h.2.1:Nat)).2.data.toList)
 else(h.1,vz h.2.1 h.2.1 h.2.2 l)
def qQ(r:RS)(l:List Ax)(size:Nat):RS×List Ax:=tK (r.byte.2.toNat % 4) (rO (r.byte.2.toNat % 4) (r.byte.2.toNat/4) r.byte.1) l size
structure MF(B b:Nat)(w0:M)(r:RS)(v:jC)(l:List Ax)(w:M):Prop where
 own:oI w B xz v l
 rd:xg w b r
 ok:r.Ok
 hB:B<=b
 ql:jD B w0 w
abbrev CRT:jX:=220
def a5O:CRT≠xz:=nT
section
variable {B b:Nat}{w0 w w':M}{r r':RS}{v:jC}{l:List Ax}
def MF.lt(h:MF B b w0 r v l w):b<w.heap.size:=nU.lt h.rd
def MF.below(h:MF B b w0 r v l w)(hb:jD w.heap.size w w'):MF B b w0 r v l w':=
 ⟨h.own.below hb,Below.blk hb h.rd h.lt,h.ok,h.hB,h.ql.trans (hb.mono (jM h.hB (Nat.le_of_lt h.lt)))⟩
def MF.ne(h:MF B b w0 r v l w):v.ownBlock≠U b:=own_ne h.own h.rd a5O
def MF.read(h:MF B b w0 r v l w)(C:pX b w w')(N:xg w' b r')(hok:r'.Ok):MF B b w0 r' v l w':=by
 refine⟨?_,N,hok,h.hB,C.below h.ql h.hB (jM h.hB (Nat.le_of_lt h.lt))⟩;obtain⟨aa,A⟩:=h.own;refine⟨aa,?_⟩;rcases A with A|⟨g,cap,E,I,hg,J,r⟩
 .exact .inl A
 .refine .inr ⟨g,cap,E,I,hg,?_,r⟩
  rw[C.block g (j6.1 J).1 (by
   have:=h.ne;rw[I]at this;simpa [kz,eq_comm]using this)]
  exact J
def MF.grow{m:List Ax}{v':jC}(h:MF B b w0 r v l w)(ho:oI w' B xz v' (l++m))(hg:w.grownBy w' v.ownBlock):MF B b w0 r v' (l++m) w':=by
 refine⟨ho,?_,h.ok,h.hB,h.ql.grown hg (jM h.hB (Nat.le_of_lt h.lt)) λk hk=>(h.own.lt k hk).1⟩;unfold xg nU;rw[hg.block b h.lt (λe=>h.ne e.symm)];exact h.rd
end
def E5(T:An):T.size=T.data.toList.length:=nX
def a2E{w:M}{B aq cp:Nat}{I:Option kW}{l:List Ax}(ae:l.length=aq)(h:oI w B xz (u I aq cp) l):aq<=cp/\cp<=jN:=by
 rcases h.2 with⟨A,h0⟩|⟨g,cap,aa,A,hg,af,J,N,_⟩
 .injection A with _ C E
  subst C E;exact⟨jB _,ko _⟩
 .injection A with _ C E
  subst C E;exact⟨K,N⟩
def Dc:(Tryz.prog.info? xz).map (λi=>(i.zero,i.size,i.bytes))=U (U (Y .u8 0),1,1):=nV
def OE(r:RS)(n:Nat)(h:n<=4):uG r n<256^n:=by
 have A:=sZ (r.take n).2.data.toList;have C:(r.take n).2.data.toList.length<=n:=by
  rw[kH];have:=take_size r n;show(r.take n).2.size<=n;omega
 exact jZ A (lG nT C)
def a2F(r:RS)(n:Nat)(h:n<=4):uG r n<4294967296:=jZ (OE r n h) (jM (lG nT h) nT)
def a5P(r:RS):uG r 1<256:=OE r 1 nT
def YC:∀q:Fin 256,bits BinOp.and IntKind.u8 (q.val:Int) 3=((q.val % 4:Nat):Int):=xH
def b0f(q:Nat)(h:q<=255):bits BinOp.and IntKind.u8 (q:Int) 3=((q % 4:Nat):Int):=YC ⟨q,K⟩
def YD(r:RS):∃q:Nat,r.byte.2=(q:Int)/\q<=255:=by
 unfold RS.byte;split
 .split
  .rename_i h
   exact⟨r.t[r.p].toNat,rfl,by have:=r.t[r.p].toNat_lt;omega⟩
  .exact⟨0,rfl,K⟩
 .exact⟨0,rfl,K⟩
def MG{p:Prop}(h:p:=by
 go_wp2_with fail;refine CF.mono ?_;rintro e w4 ⟨rfl,rfl⟩;go_wp2_with fail;refine CX.mono ?_;rintro e w5 ⟨rfl,hu,hr⟩;have HF:=H (H3.read hu hr a5Q);clear hu hr;go_wp2;go_returns;exact⟨_,rfl,by rw[HR.out];exact HF.out⟩):p:=h
def YE{p:Prop}(h:p:=by
 clear CL HLT;go_wp2_with fail;refine CLL.mono ?_;rintro e w3 ⟨rfl,hu,hr⟩;have H3:=H (H2.read hu hr OG);have HB3:=H (hu.blk V4 hbg);clear hu hr;go_wp2_with fail;go_meet;exact⟨v+1,ac,r2,by congr 1,rfl,K,K,HH,H3,HB3⟩):p:=h
def MH(B b:Nat)(w0:M)(r:RS)(v:jC)(l:List Ax)(size:Nat)(w:M)(h:MF B b w0 r v l w)(hl:l.length<=size)(hs:size<=65536):
  jG jy 190 #[nG (U (Z b 0 V)),v,Y X size] w λe w'=>∃v',e=nK v'/\MF B b w0 (qQ r l size).1 v' (qQ r l size).2 w':=by
 have ad:=H h;obtain⟨g,hg⟩:=og w.heap.size;obtain⟨L,hL⟩:=og l.length;have ag:=H hL;obtain⟨oa,cap,rfl⟩:∃oa cap,v=u oa L cap:=by
  rcases h.own.2 with⟨rfl,h0⟩|⟨g,cap,bK,rfl,_⟩
  .exact⟨V,0,by rw[<-hL,h0]⟩
  .exact⟨_,_,by rw[<-hL]⟩
 have aC:=nU.new w #[nG (U (Z b 0 V))] 193;have aU:=(jE w.heap.size w).alloc (jB _) (nL #[nG (U (Z b 0 V))] 193);have aD:=H (h.below aU);have bz:=h.lt;rw[hg]at aC bz;rw[hL]at hl;have aF:=H aC;obtain⟨ar,bA⟩:=og (qQ r l size);have HR:=H bA;rw[bA];clear h hL aC aU bA;go_in;go_upto_region 1 with fail;generalize w.alloc _=w1 at*;have c0:=aF.c0;have aQ:=H (Ow b r w1 aD.ok aD.rd);unfold AO at aQ;obtain⟨r1,aB⟩:=og r.byte.1;obtain⟨q,bB,bL⟩:∃q:Nat,r.byte.2=(q:Int)/\q<=255:=YD r;have aR:jI (ar=tK (q % 4) (rO (q % 4) (q/4) r1) l size):=H (by rw[<-HR.out];unfold qQ;rw[aB,bB];rfl);have aa:jI r1.Ok:=H (aB▸aD.ok.byte);rw[aB,bB]at aQ;clear aB bB HR;go_wp2_with fail;refine aQ.mono ?_;rintro e w2 ⟨rfl,aG,aV⟩;have hbg:g≠b:=K;have V4:=H (aG.blk aF hbg);have H2:=H (aD.read aG aV aa);clear aG aV c0 aQ aD aF ad;have c0:=V4.c0;go_upto_block 0 with fail;obtain⟨k,hk⟩:=og (q % 4);obtain⟨v,bM⟩:=og (q/4);have e1:bits BinOp.and IntKind.u8 (q:Int) 3=(k:Int):=by rw[b0f q bL,hk]
 have e2:(q:Int)/4=(v:Int):=K;simp only[e1,e2];have bC:v<=63:=K;have bN:k<4:=K;rw[hk,bM]at aR;clear e1 e2 hk bM;have dJ:=H (jF bC bN);go_cut [11,12] (λaH bv bO=>∃(n A:Nat) (r2:RS),aH=Y X (n:Int)/\bv=Y X (A:Int)/\n<=4294967296/\A<=4294967296/\jI (rO k v r1=(r2,n,A))/\jI (MF B b w0 r2 (u oa L cap) l bO)/\jI (nU bO g #[nG (U (Z b 0 V))] 193));case first=>
  have CL:=H (λ(x:Int) (n:Nat) hx hn=>OD b g r1 x n w2 aa H2.rd c0 hx hn);have HLT:=H (λ(n:Nat) hn=>a2F r1 n hn);unfold AO at CL;clear aR ag;obtain rfl|rfl|rfl|rfl:k=0\/k=1\/k=2\/k=3:=K
  .by_cases aW:60<=v
   .have bD:(v:Int) - 59=((v - 59:Nat):Int):=K
    have CLL:=H (CL ((v:Int) - 59) (v - 59) bD K);have hlt:=HLT.out (v - 59) K;rw[<-bD]at hlt;have HH:jI (rO 0 v r1=((r1.take ((v:Int) - 59)).1,uG r1 ((v:Int) - 59)+1,0)):=H (by unfold rO;rw[AC rfl,AC aW]);have OG:=H (aa.take ((v:Int) - 59));generalize uG r1 ((v:Int) - 59)=ac at*;generalize (r1.take ((v:Int) - 59)).1=r2 at*;clear bD CL HLT;go_wp2_with fail;refine CLL.mono ?_;rintro e w3 ⟨rfl,hu,hr⟩;have H3:=H (H2.read hu hr OG);have HB3:=H (hu.blk V4 hbg);clear hu hr;go_wp2_with fail;go_meet;exact⟨ac+1,0,r2,by congr 1,rfl,K,K,HH,H3,HB3⟩
   .have HH:jI (rO 0 v r1=(r1,v+1,0)):=H (by unfold rO;rw[AC rfl,As aW])
    clear CL HLT;go_wp2_with fail;go_meet;exact⟨v+1,0,r1,by congr 1,rfl,K,K,HH,H2,V4⟩
  .have CLL:=H (CL 1 1 rfl nT)
   have hlt:=HLT.out 1 nT;have HH:jI (rO 1 v r1=((r1.take 1).1,4+v % 8,v/8*256+uG r1 1)):=H rfl;have OG:=H (aa.take 1);have hlt:uG r1 1<4294967296:=hlt;have cz:=a5P r1;generalize uG r1 1=ac at*;generalize (r1.take 1).1=r2 at*;clear CL HLT;go_wp2_with fail;refine CLL.mono ?_;rintro e w3 ⟨rfl,hu,hr⟩;have H3:=H (H2.read hu hr OG);have HB3:=H (hu.blk V4 hbg);clear hu hr;go_wp2_with fail;go_meet;exact⟨4+v % 8,v/8*256+ac,r2,by congr 1,by congr 1,K,K,HH,H3,HB3⟩
  .have CLL:=H (CL 2 2 rfl nT)
   have hlt:uG r1 2<4294967296:=HLT.out 2 nT;have HH:jI (rO 2 v r1=((r1.take 2).1,v+1,uG r1 2)):=H rfl;have OG:=H (aa.take 2);generalize uG r1 2=ac at*;generalize (r1.take 2).1=r2 at*;exact YE
  .have CLL:=H (CL 4 4 rfl nT)
   have hlt:uG r1 4<4294967296:=HLT.out 4 nT;have HH:jI (rO 3 v r1=((r1.take 4).1,v+1,uG r1 4)):=H rfl;have OG:=H (aa.take 4);generalize uG r1 4=ac at*;generalize (r1.take 4).1=r2 at*;exact YE
 case rest=>
  obtain⟨n,A,r2,rfl,rfl,hn,bZ,HH,H3,HB3⟩:=hcut;have af:jI (ar=tK k (r2,n,A) l size):=H (by rw[aR.out,HH.out]);have CF:=H (qD b r2 wc H3.rd);have cK:=HB3.c0;clear aR HH H2 V4 aa c0;by_cases aj:r2.f=0;case neg=>
   have HR:jI (ar=(r2,l)):=H (by rw[af.out];unfold tK;rw[AC aj]);have dA:(r2.f !=0)=R:=by simp[aj]
   clear aj af;go_wp2_with fail;refine CF.mono ?_;rintro e w4 ⟨rfl,rfl⟩;go_wp2;go_returns;exact⟨_,rfl,by rw[HR.out];exact H3.out⟩
  rw[aj]at CF;by_cases E:(k≠0/\(A=0\/L<A))\/size - L<n
  .have HR:jI (ar=(r2.fail 3,l)):=H (by rw[af.out];unfold tK;rw[As (by simpa using aj),AC (by rw[ag.out];exact E)])
   have CX:=H (uO b r2 3 wc H3.rd);have a5Q:=H (H3.ok.fail 3);generalize r2.fail 3=r3 at*;have dB:=H E;have bP:(k=0/\((k:Int) !=0)=O/\size - L<n)\/(((k:Int) !=0)=R/\A=0)\/(((k:Int) !=0)=R/\((A:Int)==0)=O/\L<A)\/(((k:Int) !=0)=R/\((A:Int)==0)=O/\A<=L/\size - L<n):=by
    by_cases N:k=0;.exact .inl ⟨N,by simp[N],E.elim (λh=>absurd N h.1) id⟩
    .have e1:((k:Int) !=0)=R:=by simp[N]
     by_cases hb0:A=0;.exact .inr (.inl ⟨e1,hb0⟩)
     .have e2:((A:Int)==0)=O:=by simp[hb0]
      by_cases aX:L<A;.exact .inr (.inr (.inl ⟨e1,e2,aX⟩))
      .exact .inr (.inr (.inr ⟨e1,e2,K,E.elim (λh=>by omega) id⟩))
   clear E af aj ag;rcases bP with⟨rfl,e1,e3⟩|⟨e1,rfl⟩|⟨e1,e2,e3⟩|⟨e1,e2,e3,e4⟩
   .exact MG
   .exact MG
   .exact MG
   .exact MG
  .have dD:L+n<=size:=K
   by_cases N:k=0
   .subst N
    have HR:jI (ar=((r2.take (n:Nat)).1,l++(r2.take (n:Nat)).2.data.toList)):=H (by rw[af.out];unfold tK;rw[As (by simpa using aj),As (by rw[ag.out];exact E),AC rfl]);have bQ:=H (qJ b r2 n wc H3.ok H3.rd);have OG:=H (H3.ok.take n);have dE:=take_size r2 n;unfold AO at bQ;generalize (r2.take (n:Nat)).1=r3 at*;generalize (r2.take (n:Nat)).2=bE at*;obtain⟨bF,hi,aI,aJ,aK⟩:=info_parts Dc;clear E af aj;go_wp2_with fail;refine CF.mono ?_;rintro e w4 ⟨rfl,rfl⟩;go_wp2_with fail;refine bQ.mono ?_;rintro e w5 ⟨rfl,hu,hr⟩;have aS:=H (H3.read hu hr OG);have C:=H aS.own;have aL:B<=w5.heap.size:=jM aS.hB (Nat.le_of_lt aS.lt);clear hu hr;unfold oI at C;rw[ag.out]at C;go_wp2_with (at_builtin;refine Lib.wpList_append_own_string _ rfl _ _ 86 9 rfl B 5 bF lq lU hi aI aJ aK _ _ _ rfl C bE rfl ?c3 ?c4 ?c5 ?_);case c3=>unfold jN;omega
    case c4=>omega
    case c5=>exact aL
    intro v' cZ ae au _;have HF:=H (aS.grow (m:=bE.data.toList) (v':=v') (by unfold oI;rw[jK,ag.out,pI,<-E5 bE];exact ae) au);clear ae au;go_wp2;go_returns;exact⟨_,rfl,by rw[HR.out];exact HF.out⟩
   .have e1:((k:Int) !=0)=R:=by simp[N]
    have hb0:1<=A/\A<=L:=K;obtain⟨aX,bR⟩:=hb0;have e2:((A:Int)==0)=O:=nY;have e3:((k:Int)==0)=O:=by simp[N]
    have e4:At (L<A)=O:=decide_eq_false K;have e5:At ((size:Int) -(L:Int)<(n:Int))=O:=decide_eq_false K;have HR:jI (ar=(r2,vz n n A l)):=H (by rw[af.out];unfold tK;rw[As (by simpa using aj),As (by rw[ag.out];exact E),As N]);obtain⟨aM,az⟩:=og (vz n n A l);rw[az]at HR;have bS:=H az;obtain⟨bG,bT⟩:∃bG,oa=U (Z bG 0 V):=by
     rcases H3.own.2 with⟨aY,h0⟩|⟨g,cap,bK,aY,_⟩
     .have:=ag.out;omega
     .injection aY with aT _ _;exact⟨g,aT⟩
    subst bT;obtain⟨bF,hi,aI,aJ,aK⟩:=info_parts Dc;have bU:L+n<=65536:=K;clear E af aj N az;go_wp2_with fail;refine CF.mono ?_;rintro e w4 ⟨rfl,rfl⟩;go_wp2_with fail;clear cK CF;go_loopw [1,11] (λlv aH df=>∃(ai cp I F:Nat) (J:List Ax),lv=u (U (Z ai 0 V)) J.length cp/\aH=Y X (I:Int)/\J.length+I<=65536/\A<=J.length/\jI (I<=F/\vz F I A J=aM)/\jI (MF B b w0 r2 (u (U (Z ai 0 V)) J.length cp) J df)) (λ_ aH _=>(kC aH).toNat);case atStart=>exact⟨bG,cap,n,n,l,by rw[ag.out],rfl,by rw[ag.out];omega,by rw[ag.out];exact bR,H ⟨jB _,bS.out⟩,by rw[ag.out];exact H3⟩
    case round=>
     obtain⟨ai,cp,I,F,J,rfl,rfl,bV,bW,aN,av⟩:=hrel;clear H3;obtain⟨aq,bH⟩:=og J.length;have ak:=H bH;rw[bH]at bV bW av|-;clear bH;by_cases aZ:I=0
     .subst aZ
      have dh:jI (J=aM):=H (by have:=aN.2;cases F<;>simpa [vz]using this);go_wp2;go_returns;refine⟨_,rfl,?_⟩;rw[HR.out,<-dh.out];exact av
     .have bg:aq<=cp/\cp<=jN:=a2E ak av.own
      have dw:0<I:=K;unfold jN at bg;obtain⟨dx,dz⟩:=bg;clear aZ;go_upto_region 23 with fail;go_upto_region 25 with fail;obtain⟨p,hp⟩:=og (min I A);have aO:(if A<I then(A:Int)else(I:Int))=(p:Int):=by split<;>omega
      simp only[aO,Int.toNat_natCast];have bq:1<=p/\p<=A/\p<=I:=K;obtain⟨bq,dF,dG⟩:=bq;obtain⟨part,ah⟩:=og ((J.drop (aq - A)).take p);have bu:part.length=p:=by rw[<-ah,kD,kG,ak.out];omega
      obtain⟨aA,rfl⟩:∃aA,F=aA+1:=⟨F - 1,by have:=aN.1;omega⟩;have bX:jI (I - p<=aA/\vz aA (I - p) A (J++part)=aM):=H ⟨by have:=aN.1;omega,by
       have aT:=aN.2;rw[show vz (aA+1) I A J=if I=0 then J else vz aA (I - min I A) A (J++(J.drop (J.length - A)).take (min I A))from rfl,As K,hp,ak.out,ah]at aT;exact aT⟩
      have ax:jI (∀j ao,(oh part)[j]? =U ao->wr.cell? (((Z ai (aq - A) V):kW).add j)=U ao):=H λj ao bY=>by
       have e1:((Z ai (aq - A) V):kW).add j=(Z ai (aq - A+j) V):=GQ;have e2:((Z ai 0 V):kW).add (aq - A+j)=(Z ai (aq - A+j) V):=GQ;rw[e1,<-e2];have dH:j<part.length:=by have:=(lu.1 bY).1;simpa using this
       have C:=av.own;refine World.ownsRow.cells C (g:=ai) rfl (aq - A+j) ao ?_;rw[<-bY];unfold oh;rw[List.getElem?_map,List.getElem?_map];congr 1;rw[<-ah,List.getElem?_take_of_lt K,List.getElem?_drop]
      have C:=H av.own;unfold oI at C;rw[ak.out]at C;have aL:B<=wr.heap.size:=jM av.hB (Nat.le_of_lt av.lt);have dI:100000<=jN:=xH;have ay:=H bu;clear hp aO ah bu aN;go_upto_region 26 with(at_builtin;go_loud (refine wpList_append_lies wr rfl _ _ Yg rfl B xz bF (.int .u8 0) 1 1 lq hi aI aJ aK rfl nT (.slice (U (Z ai 0 V)) aq cp) aq (oh J) rfl C (Z ai (aq - A) V) p _ (oh part) rfl (by rw[rV,ay.out];omega) ax (sH _) K K K aL _ rfl ?_);intro g2 aP cZ ae au bI bJ)
      have HF:=H (av.grow (m:=part) (v':=u (U (Z g2 0 V)) (aq+p) aP) (by unfold oI;rw[jK,ak.out,ay.out,pI];exact ae) au);clear ae au bI bJ C ax;go_wp2;go_roundw;case rel=>exact⟨g2,aP,I - p,aA,J++part,by rw[jK,ak.out,ay.out],by congr 1;omega,by rw[jK,ak.out,ay.out];omega,by rw[jK,ak.out];omega,bX,by rw[jK,ak.out,ay.out];exact HF⟩
      case measure=>simp[kC];omega
def Re(mo us ta tq:Int):Array jC:=#[Y X mo,Y X us,Y X ta,Y X tq]
def V5(n:Int)(w:M):
  jG jy 32 #[Y X n] w λe w'=>e=nK (nG (U (Z w.heap.size 0 V)))/\w'=w.alloc (nL (Re (if n<0 then 0 else n) 0 0 0) 119):=by
 by_cases h:n<0
 all_goals
  go_in;go_wp2;go_returns;exact⟨rfl,rfl⟩
def BL(mo us ta n:Int):Int:=if mo - us<n\/9223372036854775807 - ta<n then 5 else 0
def MI{p:Prop}(h:p:=by
 go_in;go_wp2;go_quiet (fail);go_wp2;go_returns;exact⟨rfl,_,rfl⟩):p:=h
def take1(b p q:Nat)(mo us ta tq n:Int)(w:M)(h0:0<=us)(J:us<=mo)(N:mo<=9223372036854775807)(aa:0<=ta)(ae:ta<=9223372036854775807)(hb:nU w b (Re mo us ta tq) 119)(hp:w.cell? (Z p 0 V)=U (Y X n))(af:w.cell? (Z q 0 V)=U (nG (U (Z b 0 V)))):
  jG jy 60 #[nG (U (Z p 0 V)),nG (U (Z q 0 V))] w λe w'=>e=nK (Y X (BL mo us ta n))/\∃k,w'=w.drewN k:=by
 have c0:=hb.cell 0;have c1:=hb.cell 1;have c2:=hb.cell 2;simp[Re]at c0 c1 c2;by_cases A:mo - us<n
 .have e:BL mo us ta n=5:=AC (.inl A)
  rw[e];clear e;exact MI
 .have E:At (mo - us<n)=O:=by simpa using A
  by_cases C:9223372036854775807 - ta<n
  .have e:BL mo us ta n=5:=AC (.inr C)
   rw[e];clear e A;exact MI
  .have e:BL mo us ta n=0:=As K
   rw[e];have I:At (9223372036854775807 - ta<n)=O:=by simpa using C
   clear e A C;exact MI
def take2(b p q:Nat)(mo us ta tq n:Int)(w:M)(h0:0<=us+n)(E:us+n<=9223372036854775807)(I:0<=ta+n)(J:ta+n<=9223372036854775807)(A:q≠b)(C:p≠b)(hb:nU w b (Re mo us ta tq) 119)(hp:w.cell? (Z p 0 V)=U (Y X n))(N:w.cell? (Z q 0 V)=U (nG (U (Z b 0 V)))):
  jG jy 61 #[nG (U (Z q 0 V)),nG (U (Z p 0 V))] w λe w'=>e=nK (nJ #[])/\pX b w w'/\nU w' b (Re mo (us+n) (ta+n) tq) 119:=by
 have c1:=hb.cell 1;have c2:=hb.cell 2;have f1:=hb.free 1;have f2:=hb.free 2;simp[Re]at c1 c2;go_in;go_wp2;go_region;go_wp2;go_region;go_wp2;go_returns;exact⟨rfl,(((pX.refl b w).set 1 _).set 2 _).drew.drew,(hb.set 1 _).set 2 _⟩
def a5l(b:Nat)(w:M)(r mo us ta tq:Int):Ending->M->Prop:=λe w'=>
 e=nK (Y X r)/\pX b w w'/\nU w' b (Re mo us ta tq) 119
def Rf(a b:Int):Int:=if a<b then b else a
def MJ(b:Nat)(mo us ta tq n r:Int)(cf C:Array jC)(w:M)(hn:0<=n)(J:((r:Int) !=0)=R)(hb:nU w b (Re mo us ta tq) 119)(A:jG jy 60 cf w λe w'=>e=nK (Y X r)/\∃k,w'=w.drewN k):
  jG jy 59 #[nG (U (Z b 0 V)),Y X n,.func (.func 60) #[] cf,.func (.func 61) #[] C] w (a5l b w r mo us ta tq):=by
 have E:=H A;clear A;have I:At (n<0)=O:=by simpa using hn
 go_in;go_wp2_with fail;refine E.mono ?_;rintro e w1 ⟨rfl,k,rfl⟩;go_wp2;go_returns;exact⟨rfl,⟨rfl,rfl,rfl,jB _,λ_ _ _=>rfl⟩,hb⟩
def MK(b:Nat)(mo us ta tq A E n:Int)(cf I:Array jC)(w:M)(hn:0<=n)(hb:nU w b (Re mo us ta tq) 119)(J:jG jy 60 cf w λe w'=>e=nK (Y X 0)/\∃k,w'=w.drewN k)(N:∀k,jG jy 61 I (w.drewN k) λe w'=>e=nK (nJ #[])/\pX b (w.drewN k) w'/\nU w' b (Re mo A E tq) 119):
  jG jy 59 #[nG (U (Z b 0 V)),Y X n,.func (.func 60) #[] cf,.func (.func 61) #[] I] w (a5l b w 0 mo A E (Rf tq A)):=by
 have aa:=H J;have ae:=H N;clear J N;have ag:At (n<0)=O:=by simpa using hn
 have ah:(if tq<A then A else tq)=Rf tq A:=rfl;generalize Rf tq A=m at*;go_in;go_wp2_with fail;refine aa.mono ?_;rintro e w1 ⟨rfl,k,rfl⟩;go_wp2_with fail;refine(ae k).mono ?_;rintro e w2 ⟨rfl,af,C⟩;have c1:=C.cell 1;have c3:=C.cell 3;have f3:=C.free 3;simp[Re]at c1 c3;go_wp2_with fail;go_region;go_wp2;go_returns;refine⟨rfl,?_,?_⟩
 .refine pX.trans (v:=w.drewN k) ⟨rfl,rfl,rfl,jB _,λ_ _ _=>rfl⟩ ?_
  exact(af.set 3 _).drew
 .exact C.set 3 _
structure MS where
 mo:Int
 us:Int
 ta:Int
 tq:Int
structure MS.Ok(m:MS):Prop where
 a:0<=m.us
 b:m.us<=m.tq
 c:m.tq<=m.mo
 d:m.mo<=9223372036854775807
 e:0<=m.ta
 f:m.ta<=9223372036854775807
def MS.cs(m:MS):Array jC:=Re m.mo m.us m.ta m.tq
def MS.new(n:Int):MS:=⟨if n<0 then 0 else n,0,0,0⟩
def MS.take(m:MS)(n:Int):MS×Int:=
 if n<0 then(m,1)else if m.mo - m.us<n\/9223372036854775807 - m.ta<n then(m,5)else(⟨m.mo,m.us+n,m.ta+n,Rf m.tq (m.us+n)⟩,0)
def MS.Ok.new(n:Int)(h:n<=9223372036854775807):(MS.new n).Ok:=by
 unfold MS.new;constructor<;>(simp only[];try split)<;>omega
def MS.Ok.take{m:MS}(h:m.Ok)(n:Int):(m.take n).1.Ok:=by
 obtain⟨a,b,c,d,e,f⟩:=h;unfold MS.take Rf;split;.exact⟨a,b,c,d,e,f⟩
 .split
  .exact⟨a,b,c,d,e,f⟩
  .constructor<;>(simp only[];try split)<;>omega
def IsM(w:M)(b:Nat)(m:MS):Prop:=nU w b m.cs 119
def a5m(b:Nat)(w:M)(r:MS×Int):Ending->M->Prop:=λe w'=>e=nK (Y X r.2)/\pX b w w'/\IsM w' b r.1
def Rh(n:Int)(w:M):
  jG jy 32 #[Y X n] w λe w'=>e=nK (nG (U (Z w.heap.size 0 V)))/\jD w.heap.size w w'/\w.heap.size<w'.heap.size/\IsM w' w.heap.size (MS.new n):=by
 refine(V5 n w).mono λe w' ⟨he,A⟩=>⟨he,?_⟩
 subst A;exact⟨(jE _ _).alloc (jB _) _,nX,nU.new _ _ _⟩
def YF{p:Prop}(h:p:=by
 clear hb2 hp hq e e2 d1 H1;have H':=H ad;clear ad;go_in;go_wp2_with fail;refine H'.mono ?_;rintro e w2 ⟨rfl,hu2,hb3⟩;go_wp2;go_returns;exact⟨rfl,hu.trans hu2,hb3⟩):p:=h
def IC(b:Nat)(m:MS)(n:Int)(w:M)(E:m.Ok)(hb:IsM w b m):
  jG jy 33 #[nG (U (Z b 0 V)),Y X n] w (a5m b w (m.take n)):=by
 obtain⟨mo,us,ta,tq⟩:=m;obtain⟨a,b',c,d,e,f⟩:=E;simp only at a b' c d e f;have A:nU w b (Re mo us ta tq) 119:=hb;have hlt:=A.lt;have hb2:nU ((w.alloc (nL #[nG (U (Z b 0 V))] 89)).alloc (nL #[Y X n] 3)) b (Re mo us ta tq) 119:=(A.alloc _).alloc _;have hp:((w.alloc (nL #[nG (U (Z b 0 V))] 89)).alloc (nL #[Y X n] 3)).cell? (Z (w.heap.size+1) 0 V)=U (Y X n):=by simp[go_sem]
 have hq:((w.alloc (nL #[nG (U (Z b 0 V))] 89)).alloc (nL #[Y X n] 3)).cell? (Z w.heap.size 0 V)=U (nG (U (Z b 0 V))):=by simp[go_sem]
 have hu:pX b w ((w.alloc (nL #[nG (U (Z b 0 V))] 89)).alloc (nL #[Y X n] 3)):=((pX.refl b w).alloc _).alloc _;by_cases hn:n<0
 .have e:MS.take ⟨mo,us,ta,tq⟩ n=(⟨mo,us,ta,tq⟩,1):=AC hn
  rw[e];clear e hb2 hp hq;go_in;go_wp2_with (go_at_call 59;go_in);go_returns;exact⟨rfl,hu,(A.alloc _).alloc _⟩
 .have C:0<=n:=K
  have H1:=take1 b (w.heap.size+1) w.heap.size mo us ta tq n _ K K K K K hb2 hp hq;by_cases d1:mo - us<n\/9223372036854775807 - ta<n
  .have e:MS.take ⟨mo,us,ta,tq⟩ n=(⟨mo,us,ta,tq⟩,5):=by unfold MS.take;rw[As hn,AC d1]
   have e2:BL mo us ta n=5:=AC d1;rw[e];rw[e2]at H1;have ad:=MJ b mo us ta tq n 5 _ #[nG (U (Z w.heap.size 0 V)),nG (U (Z (w.heap.size+1) 0 V))] _ C nT hb2 H1;exact YF
  .have e:MS.take ⟨mo,us,ta,tq⟩ n=(⟨mo,us+n,ta+n,Rf tq (us+n)⟩,0):=by unfold MS.take;rw[As hn,As d1]
   have e2:BL mo us ta n=0:=As d1;rw[e];rw[e2]at H1;have ad:=MK b mo us ta tq (us+n) (ta+n) n _ _ _ C hb2 H1 λk=>take2 b (w.heap.size+1) w.heap.size mo us ta tq n _ K K K K K K hb2 hp hq
   exact YF
def YG(b:Nat)(m:MS)(w:M)(hb:IsM w b m):
  jG jy 35 #[nG (U (Z b 0 V))] w λe w'=>e=nK (Y X m.ta)/\w=w':=by
 have c:=nU.cell hb 2;simp[MS.cs,Re]at c;go_in;go_wp2;go_returns;exact⟨rfl,rfl⟩
def RS.left(r:RS):Nat:=if r.f=0 then r.t.size - r.p else 0
def RS.De(r:RS)(n:Int)(h:r.Ok):(r.take n).1.t=r.t/\r.p<=(r.take n).1.p/\(r.f≠0->(r.take n).1.f≠0):=by
 unfold RS.take;split
 .split
  .exact⟨rfl,jB _,λh=>absurd ‹r.f=0› h⟩
  .split
   .exact⟨rfl,jB _,λh=>absurd ‹r.f=0› h⟩
   .exact⟨rfl,Nat.le_add_right _ _,λh=>absurd ‹r.f=0› h⟩
 .exact⟨rfl,jB _,id⟩
def RS.Df(r:RS)(x:Int)(A:x≠0):(r.fail x).t=r.t/\r.p<=(r.fail x).p/\(r.fail x).f≠0:=by
 unfold RS.fail;split;.exact⟨rfl,jB _,A⟩
 .exact⟨rfl,jB _,‹_›⟩
def RS.Ri(r:RS)(h:r.Ok)(h0:r.f=0)(A:r.p<r.t.size):r.byte.1.t=r.t/\r.byte.1.p=r.p+1/\r.byte.1.f=0:=by
 unfold RS.byte;rw[AC h0,dif_pos A];exact⟨rfl,rfl,rfl⟩
def Hl{p:Prop}(h:p:=by
 exact⟨(r.De _ h).1,(r.De _ h).2.1,h.take _⟩):p:=h
def OH(k v:Nat)(r:RS)(h:r.Ok):(rO k v r).1.t=r.t/\r.p<=(rO k v r).1.p/\(rO k v r).1.Ok:=by
 unfold rO;split
 .split
  .exact Hl
  .exact⟨rfl,jB _,h⟩
 .split
  .exact Hl
  .split
   .exact Hl
   .exact Hl
def DR:∀(f n A:Nat)(l:List Ax),n<=f->1<=A->A<=l.length->(vz f n A l).length=l.length+n
 |0,n,A,l,h,_,_=>by simp only[vz];omega
 |f+1,n,A,l,h,hb,hl=>by
  simp only[vz];split;.omega
  .have C:((l.drop (l.length - A)).take (min n A)).length=min n A:=by rw[kD,kG];omega
   rw[DR f _ A _ K hb (by rw[jK];omega),jK,C];omega
def OI{k:Nat}{h:RS×Nat×Nat}{l:List Ax}{size:Nat}(hok:h.1.Ok)(hl:l.length<=size):
  (tK k h l size).1.t=h.1.t/\h.1.p<=(tK k h l size).1.p/\(tK k h l size).1.Ok/\(tK k h l size).2.length<=size:=by
 unfold tK;split;.exact⟨rfl,jB _,hok,hl⟩
 .split
  .have:=h.1.Df 3 nT
   exact⟨this.1,this.2.1,hok.fail _,hl⟩
  .rename_i A C
   split
   .have:=h.1.De (h.2.1:Nat) hok
    refine⟨this.1,this.2.1,hok.take _,?_⟩;have E:=take_size h.1 h.2.1;rw[jK,<-E5];omega
   .rename_i hk
    refine⟨rfl,jB _,hok,?_⟩;rw[DR _ _ _ _ (jB _) K K];omega
def yu{r:RS}{l:List Ax}{size:Nat}(hok:r.Ok)(hl:l.length<=size)(h0:r.f=0)(A:r.p<r.t.size):
  (qQ r l size).1.t=r.t/\r.p+1<=(qQ r l size).1.p/\(qQ r l size).1.Ok/\(qQ r l size).2.length<=size:=by
 unfold qQ;obtain⟨b1,E,b3⟩:=r.Ri hok h0 A;obtain⟨C,a2,a3⟩:=OH (r.byte.2.toNat % 4) (r.byte.2.toNat/4) r.byte.1 hok.byte;obtain⟨c1,c2,c3,c4⟩:=OI (k:=r.byte.2.toNat % 4) (h:=rO (r.byte.2.toNat % 4) (r.byte.2.toNat/4) r.byte.1) (l:=l) (size:=size) a3 hl;exact⟨by rw[c1,C,b1],K,c3,c4⟩
def RS.wo(r:RS)(n:Int)(h:0<=r.f):0<=(r.take n).1.f:=by
 unfold RS.take;split
 .split
  .show(0:Int)<=1;decide
  .split
   .show(0:Int)<=2;decide
   .show(0:Int)<=0;decide
 .exact h
def RS.zH(r:RS){x:Int}(A:0<=x)(h:0<=r.f):0<=(r.fail x).f:=by
 unfold RS.fail;split;.exact A
 .exact h
def RS.Uk(r:RS)(h:0<=r.f):0<=r.byte.1.f:=by
 unfold RS.byte;split
 .split
  .show(0:Int)<=0;decide
  .show(0:Int)<=2;decide
 .exact h
def YH{r:RS}{l:List Ax}{size:Nat}(h:0<=r.f):0<=(qQ r l size).1.f:=by
 have A:∀k v,0<=(rO k v r.byte.1).1.f:=λk v=>by
  have hb:=r.Uk h;unfold rO;split
  .split
   .exact RS.wo _ _ hb
   .exact hb
  .split
   .exact RS.wo _ _ hb
   .split
    .exact RS.wo _ _ hb
    .exact RS.wo _ _ hb
 unfold qQ tK;split;.exact A _ _
 .split
  .exact RS.zH _ nT (A _ _)
  .split
   .exact RS.wo _ _ (A _ _)
   .exact A _ _
def Rj{r:RS}{l:List Ax}{size:Nat}(hok:r.Ok)(hl:l.length<=size)(h0:r.f=0)(A:r.p<r.t.size):(qQ r l size).1.left<r.left:=by
 obtain⟨a,b,c,d⟩:=yu hok hl h0 A;unfold RS.left;rw[AC h0,a];split<;>omega
def vg(size:Nat):Nat->RS->List Ax->RS×List Ax
 |0,r,l=>(r,l)
 |f+1,r,l=>if r.f=0/\r.p<r.t.size then vg size f (qQ r l size).1 (qQ r l size).2 else(r,l)
def y7(s:An)(size:Nat):Except Nat (List Ax):=
 let y:=vg size (s.size+1) (RS.of s) [];let r:=if y.2.length<size then y.1.fail 2 else y.1
 if r.f≠0 then .error r.f.toNat else .ok y.2
def K7:Option (Nat×MS)->jC
 |none=> nG V
 |some x=> nG (U (Z x.1 0 V))
def qb(w:M):Option (Nat×MS)->Prop
 |none=>True
 |some x=>IsM w x.1 x.2/\x.2.Ok
def rD(n:Int):Option (Nat×MS)->Option (Nat×MS)
 |none=>V
 |some x=>U (x.1,(x.2.take n).1)
def xL(n:Int):Option (Nat×MS)->Int
 |none=>0
 |some x=>(x.2.take n).2
def oQ(mt:Option (Nat×MS)):Option Nat:=mt.map Prod.fst
@[simp] theorem IE (n:Int) (mt:Option (Nat×MS)):oQ (rD n mt)=oQ mt:=by cases mt<;>rfl
def DT(n:Int)(mt:Option (Nat×MS)):0<=xL n mt:=by
 cases mt with
 |none=>exact Int.le_refl _
 |some x=>
  unfold xL MS.take;dsimp only;split;.show(0:Int)<=1;decide
  .split
   .show(0:Int)<=5;decide
   .show(0:Int)<=0;decide
def ry(s:An)(most:Int)(mt:Option (Nat×MS)):Except Nat (List Ax)×Option (Nat×MS):=
 match tJ s.data.toList with
 |(n,k,e)=>if e≠0 then(.error e,mt)else if most<n then(.error 5,mt)else
  if xL n mt≠0 then(.error (xL n mt).toNat,rD n mt)else(y7 (s.extract k s.size) n,rD n mt)
def YI(ar:Except Nat (List Ax)×Option (Nat×MS))(mt:Option (Nat×MS))(w:M)(e:Ending)(w':M):Prop:=
 w.grownBy w' (oQ mt)/\qb w' ar.2/\match ar.1 with
 | .error er=>e=nK (nJ #[G ⟨#[]⟩,Y X (er:Nat)])
 | .ok l=>e=nK (nJ #[G ⟨l.toArray⟩,Y X 0])
def qb.grown{mt:Option (Nat×MS)}{w w':M}(h:qb w mt)(hb:jD w.heap.size w w'):qb w' mt:=by
 cases mt with
 |none=>trivial
 |some x=>exact⟨Below.blk hb h.1 (nU.lt h.1),h.2⟩
def pG{w w':M}{row:Option Nat}(hb:jD w.heap.size w w'):w.grownBy w' row:=⟨hb.os,hb.tape,hb.output,hb.size,λi hi _=>hb.block i hi⟩
def qp{a b c:M}{row:Option Nat}(h:a.grownBy b row)(k:b.grownBy c row):a.grownBy c row:=
 ⟨k.os.trans h.os,k.tape.trans h.tape,k.output.trans h.output,jM h.size k.size,λi hi A=>(k.block i (jZ hi h.size) A).trans (h.block i hi A)⟩
def a2H(mt:Option (Nat×MS))(b:Nat)(m:MS)(A:mt=U (b,m))(n:Int)(w:M)(h:qb w mt):
  jG jy 33 #[nG (U (Z b 0 V)),Y X n] w λe w'=>e=nK (Y X (xL n mt))/\w.grownBy w' (oQ mt)/\qb w' (rD n mt):=by
 subst A;exact(IC b m n w h.2 h.1).mono λe w' ⟨C,E,I⟩=>⟨C,E,I,h.2.take n⟩
def YJ(mt:Option (Nat×MS))(W:M):lL jy (eqGuard BinOp.neq 89 (Operand.tmp 29) (Operand.const (Value.pointer V)) (K7 mt) (nG V)) W=.ok () W:=by
 cases mt with
 |none=>rfl
 |some x=>rfl
def a5R(mt:Option (Nat×MS))(W:M):lL jy (binOp BinOp.neq 89 (K7 mt) (nG V)) W=.ok (nH mt.isSome) W:=by
 cases mt with
 |none=>rfl
 |some x=>rfl
def YK(c:Nat)(C:Int)(A:C=c)(hc:c<=4096)(w:M):(Instr.makeSlice Yg (Y X 0) (Y X C)).run jy w=
  .ok (u (U (Z w.heap.size 0 V)) 0 c) (w.alloc (nL (madeCells #[Y .u8 0] c) xz)):=by
 subst A;obtain⟨i,hi,E,hs,hb⟩:=info_parts Dc;have I:=run_make (P:=jy) w Yg xz i (.int .u8 0) lq hi E .i64 .i64 ((0:Nat):Int) (c:Int) K K (by rw[hb];omega) K;simpa [hs,Value.cells]using I
def V6(c:Nat):(madeCells #[lC .u8 0] c).size=c:=by
 rw[<-kH,toList_madeCells_one];simp
def MM(T b:Nat)(w:M):Nat:=match w.cell? (Z b 1 V),w.cell? (Z b 2 V)with
 |some (Y _ p),U (Y _ f)=>if f=0 then T - p.toNat else 0
 |_,_=>0
def K8{b:Nat}{w:M}{r:RS}(h:xg w b r):MM r.t.size b w=r.left:=by
 unfold MM RS.left;have c1:=nU.cell h 1;have c2:=nU.cell h 2;simp[RS.cs]at c1 c2;rw[c1,c2];simp
structure UnI(b:Nat)(w:M)(mt:Option (Nat×MS))(r:RS)(v:jC)(l:List Ax)(W:M):Prop where
 sn:MF w.heap.size b w r v l W
 mt:qb W mt
def Rk{w w0 W:M}{b:Nat}{mt Km:Option (Nat×MS)}{r:RS}{v:jC}{l:List Ax}(hg:w.grownBy w0 (oQ mt))(h:UnI b w0 Km r v l W):w.grownBy W (oQ mt)/\qb W Km:=
 ⟨qp hg (pG h.sn.ql),h.mt⟩
def a2J{B:Nat}{W A:M}{mt:Option (Nat×MS)}(h:qb W mt)(hlt:∀x,oQ mt=U x->x<B)(hB:B<=W.heap.size)(hb:jD B W A):qb A mt:=by
 cases mt with
 |none=>trivial
 |some x=>exact⟨Below.blk hb h.1 (hlt _ rfl),h.2⟩
def V7{w:M}{B:Nat}{v:jC}{l:List Ax}(h:oI w B xz v l):∃A C,v=u A l.length C:=by
 rcases h.2 with⟨rfl,h0⟩|⟨g,cap,E,rfl,_⟩
 .exact⟨V,0,by rw[h0]⟩
 .exact⟨_,_,rfl⟩
def Ul{b:Nat}{w W:M}{mt:Option (Nat×MS)}{r:RS}{v:jC}{l:List Ax}(h:UnI b w mt r v l W)(k:Nat):UnI b w mt r v l (W.drewN k):=
 ⟨⟨h.sn.own,h.sn.rd,h.sn.ok,h.sn.hB,⟨h.sn.ql.os,h.sn.ql.tape,h.sn.ql.output,h.sn.ql.size,h.sn.ql.block⟩⟩,h.mt⟩
def Um{p:Prop}(h:p:=by
 go_in;go_wp2_with fail;refine CS.mono ?_;rintro e w2 ⟨rfl,rfl⟩;go_wp2;go_returns;rw[<-HRR.out];exact⟨World.grownBy.refl _ _,HMT.out,rfl⟩):p:=h
def YL{p:Prop}(h:p:=by
 rw[AC c1,AC (r.Df 2 nT).2.2]at YM;have hfn:=(r.Df 2 nT).2.2;have hfp:=RS.zH r (x:=2) nT hnn;have a5Q:=H (HU.sn.ok.fail 2);generalize r.fail 2=r3 at*;have hfb:(r3.f !=0)=R:=by simp[hfn]
 go_wp2_with fail;refine CX.mono ?_;rintro e w7 ⟨rfl,hu,hr⟩;have HU7:jI (UnI b wc (rD n mt) r3 (u oq L cq) l w7):=H ⟨HU.sn.read hu hr a5Q.out,a2J HU.mt HLT (jM HU.sn.hB (Nat.le_of_lt HU.sn.lt)) (pX.below (B:=wc.heap.size) (b:=b) hu (jE _ _) HU.sn.hB (jM HU.sn.hB (Nat.le_of_lt HU.sn.lt)))⟩;have CF7:=H (qD b r3 w7 hr);clear hu hr;go_wp2_with fail;refine CF7.mono ?_;rintro e w8 ⟨rfl,rfl⟩;go_wp2_with fail;refine CF7.mono ?_;rintro e w8 ⟨rfl,rfl⟩;go_wp2;go_returns;rw[YM.out];have hend:=Rk H3.1 HU7.out;exact⟨hend.1,hend.2,by dsimp only;rw[ny hfp];rfl⟩):p:=h
def OJ(s:An)(most:Int)(mt:Option (Nat×MS))(w:M)(hs:s.size<=jN)(cK:most<=65536)(af:qb w mt):
  jG jy 148 #[G s,Y X most,K7 mt] w (YI (ry s most mt) mt w):=by
 have CS:=H (V3 s w hs);have cZ:s.size<=9223372036854775807:=by unfold jN at hs;omega
 obtain⟨ar,A⟩:=og (ry s most mt);rw[A];unfold ry at A;have ag:=λn k h=>K6 (l:=s.data.toList) (n:=n) (k:=k) h
 obtain⟨n,k,er,hsz⟩:∃n k er,tJ s.data.toList=(n,k,er):=⟨_,_,_,rfl⟩;rw[hsz]at CS A;have HMT:=H af;dsimp only at CS A;by_cases he:er=0;case neg=>
  rw[AC he]at A;have df:((er:Int)==0)=O:=vo;have dh:((er:Int) !=0)=R:=EX;have HRR:=H A;clear he hsz ag A af;exact Um
 subst he;rw[As nX]at A;obtain⟨hk,bW⟩:=ag n k hsz;rw[<-E5]at hk;by_cases av:most<n
 .rw[AC av]at A
  have HRR:=H A;clear hsz ag A af;exact Um
 rw[As av]at A;obtain⟨J,E⟩:=og (xL n mt);have bu:0<=J:=E▸DT _ _;rw[E]at A;have HRR:=H A;have ax:=H E;have bz:n<=65536:=K;have bX:At (most<(n:Int))=O:=nY;have dE:=a5R mt;have dw:=YJ mt;have bA:jI (∀b m,mt=U (b,m)->jG jy 33 #[nG (U (Z b 0 V)),Y X n] w λe w'=>e=nK (Y X J)/\w.grownBy w' (oQ mt)/\qb w' (rD n mt)):=H λb m h=>E▸a2H mt b m h n w HMT.out
 clear ag hsz A E af av;go_in;go_wp2_with fail;refine CS.mono ?_;rintro e w2 ⟨rfl,rfl⟩;clear CS;go_upto_if 31 with(fail)
 go_cut [10] (λev bI=>ev=Y X J/\jI (w.grownBy bI (oQ mt)/\qb bI (rD n mt)));case first=>
  cases mt with
  |none=>
   have ht:jI (J=0):=H ax.symm;go_wp2_with fail;go_meet;exact⟨by rw[ht.out],H ⟨World.grownBy.refl _ _,trivial⟩⟩
  |some x=>
   obtain⟨bm,m⟩:=x;have bJ:=H (bA bm m rfl);have bB:K7 (U (bm,m))=nG (U (Z bm 0 V)):=rfl;simp only[bB];clear bA HRR HMT ax;go_wp2_with fail;refine bJ.mono ?_;rintro e w3 ⟨rfl,aO,aP⟩;have H3:=H (jF aO aP);clear aO aP;go_wp2_with fail;go_meet;exact⟨rfl,H3⟩
 case rest=>
  obtain⟨rfl,H3⟩:=hcut;clear bA;by_cases aJ:J=0;case neg=>
   have dx:(J !=0)=R:=by simp[aJ]
   have bK:jI (ar=(.error J.toNat,rD n mt)):=H (by rw[<-HRR.out,AC aJ]);clear aJ HRR;go_wp2;go_returns;rw[bK.out];exact⟨H3.1,H3.2,by dsimp only;rw[ny bu];rfl⟩
  subst aJ;have HRR:jI (ar=(y7 (s.extract k s.size) n,rD n mt)):=H (by rw[<-HRR.out];rfl);obtain⟨c,hc⟩:=og (min n 4096);have ah:min (n:Int) 4096=(c:Int):=K;have ai:(if(4096:Int)<(n:Int)then(4096:Int)else(n:Int))=(c:Int):=by split<;>omega
  have bL:=λw=>YK c c rfl K w
  have dz:4096<=jN:=xH;have ay:=H (oI.made wc wc.heap.size xz (madeCells #[Y .u8 0] c) c (jB _) K (V6 c));have az:=(jE wc.heap.size wc).alloc (jB _) (nL (madeCells #[Y .u8 0] c) xz);have aQ:=H az;have aR:=H (H3.2.grown az);have HLT:jI (∀x,oQ (rD n mt)=U x->x<wc.heap.size):=H λx aK=>by
   have:=H3.2;cases aS:rD n mt with
   |none=>rw[aS]at aK;cases aK
   |some y=>rw[aS]at aK this;cases aK;exact nU.lt this.1
  have bC:(wc.alloc (nL (madeCells #[Y .u8 0] c) xz)).heap.size=wc.heap.size+1:=nX;have bM:(k:Int)<=(s.size:Int):=K;obtain⟨N,aT⟩:=og (s.extract k s.size);have aA:N.size<=9223372036854775807:=by rw[<-aT];simp[jP];omega
  rw[aT]at HRR;clear hc az ax HMT;go_upto_region 9 with fail;generalize wc.alloc _=w1 at*;have aU:=H (AP N w1);simp only[ah,ai]at*;go_wp2_with fail;refine aU.mono ?_;obtain⟨b,aB⟩:=og w1.heap.size;rintro e w2 ⟨rfl,aj,bD,aV⟩;have aW:wc.heap.size<=w1.heap.size:=K;have aC:jI (UnI b wc (rD n mt) (RS.of N) (u (U (Z wc.heap.size 0 V)) 0 c) [] w2):=H ⟨⟨ay.below aj,aB▸aV,RS.Ok.of aA,K,aQ.trans (aj.mono aW)⟩,aR.grown aj⟩;obtain⟨ak,aX⟩:=og (vg n (N.size+1) (RS.of N) []);have aD:=H aX;obtain⟨dF,aY⟩:=og wc.heap.size;rw[aB];rw[aY]at aC|-;obtain⟨T,bN⟩:=og N.size;have bE:=H bN;clear aj bD aV ay aQ aR aU bC bL aX aB aW aY bN bM aA ah ai;go_wp2_with fail;go_loopw [11] (λlv bF=>∃(r:RS) (l:List Ax),jI (UnI b wc (rD n mt) r lv l bF)/\jI (∃F,r.left<F/\vg n F r l=ak)/\jI (r.t.size=T)/\l.length<=n/\0<=r.f) (λ_ bF=>MM T b bF);case atStart=>exact⟨RS.of N,[],aC,H ⟨T+1,by unfold RS.left RS.of;simp[bE.out],by rw[<-bE.out];exact aD.out⟩,bE,ko _,Int.le_refl _⟩
  case round=>
   obtain⟨r,l,HU,bG,C,hl,hnn⟩:=hrel;obtain⟨oq,cq,bB⟩:=V7 HU.sn.own;subst bB;obtain⟨L,hL⟩:=og l.length;have bO:=H hL;rw[hL]at HU|-;clear hL;have aL:=H (qD b r wr HU.sn.rd);have au:=H (Gg b r wr HU.sn.ok HU.sn.rd);have dA:r.p<=T:=by rw[<-C.out];exact HU.sn.ok.1
   rw[C.out]at au;clear aC;by_cases I:r.f=0;case neg=>
    have bY:(r.f==0)=O:=by simp[I]
    go_wp2_with fail;refine aL.mono ?_;rintro e aM ⟨rfl,rfl⟩
    have aF:jI (ak=(r,l)):=H (by obtain⟨F,aG,aa⟩:=bG.out;rw[<-aa];cases F with
     |zero=>rfl
     |succ F=>exact As (λh=>I h.1))
    have YM:jI (ar=((if(if l.length<n then r.fail 2 else r).f≠0 then .error (if l.length<n then r.fail 2 else r).f.toNat else .ok l),rD n mt)):=H (by rw[HRR.out];unfold y7;rw[aD.out,aF.out]);rw[bO.out]at YM;clear aF;by_cases c1:L<n
    .have CX:=H (uO b r 2 wr HU.sn.rd)
     exact YL
    .rw[As c1]at YM
     have CF7:=H (qD b r wr HU.sn.rd);by_cases c2:r.f=0;.exact absurd c2 I
     .rw[AC c2]at YM
      have hfb:(r.f !=0)=R:=by simp[c2]
      go_wp2_with fail;refine CF7.mono ?_;rintro e w8 ⟨rfl,rfl⟩;go_wp2_with fail;refine CF7.mono ?_;rintro e w8 ⟨rfl,rfl⟩;go_wp2;go_returns;rw[YM.out];have hend:=Rk H3.1 HU.out;exact⟨hend.1,hend.2,by dsimp only;rw[ny hnn];rfl⟩
   rw[I]at aL;by_cases hp:r.p<T;case neg=>
    have aZ:((T:Int) -(r.p:Int))=0:=K;rw[aZ]at au;go_wp2_with fail;refine aL.mono ?_;rintro e aM ⟨rfl,rfl⟩;go_wp2_with fail;refine au.mono ?_;rintro e aM ⟨rfl,ae,rfl⟩;have HU:jI (UnI b wc (rD n mt) r (u oq L cq) l (wr.drewN ae)):=H (Ul HU ae);generalize wr.drewN ae=aN at*
    have aF:jI (ak=(r,l)):=H (by obtain⟨F,aG,aa⟩:=bG.out;rw[<-aa];cases F with
     |zero=>rfl
     |succ F=>exact As (λh=>hp (by rw[<-C.out];exact h.2)))
    have YM:jI (ar=((if(if l.length<n then r.fail 2 else r).f≠0 then .error (if l.length<n then r.fail 2 else r).f.toNat else .ok l),rD n mt)):=H (by rw[HRR.out];unfold y7;rw[aD.out,aF.out]);rw[bO.out]at YM;clear aF;by_cases c1:L<n
    .have CX:=H (uO b r 2 aN HU.sn.rd)
     exact YL
    .rw[As c1]at YM
     have CF7:=H (qD b r aN HU.sn.rd);by_cases c2:r.f=0
     .rw[As (by simpa using c2)]at YM
      rw[c2]at CF7;have dB:=(HU.sn.own:oI aN wc.heap.size xz (u oq L cq) l).string Cr;go_wp2_with fail;refine CF7.mono ?_;rintro e w8 ⟨rfl,rfl⟩;go_wp2;go_returns;rw[YM.out];have hend:=Rk H3.1 HU.out;exact⟨hend.1,hend.2,rfl⟩
     .exact absurd I c2
   .have aZ:(0:Int)<(T:Int) -(r.p:Int):=K
    have bZ:=H (λW (h:MF wc.heap.size b wc r (u oq L cq) l W)=>MH wc.heap.size b wc r (u oq L cq) l n W h hl bz);have bP:=yu (size:=n) HU.sn.ok hl I (by rw[C.out];exact hp);have bg:=Rj (size:=n) HU.sn.ok hl I (by rw[C.out];exact hp);have bH:=YH (l:=l) (size:=n) hnn;have bQ:jI (∃F,(qQ r l n).1.left<F/\vg n F (qQ r l n).1 (qQ r l n).2=ak):=H (by
     obtain⟨F,aG,aa⟩:=bG.out;cases F with
     |zero=>omega
     |succ F=>
      simp only[vg]at aa;rw[AC ⟨I,by rw[C.out];exact hp⟩]at aa;exact⟨F,K,aa⟩)
    have bR:jI ((qQ r l n).1.left<MM T b wr):=H (by rw[<-C.out,K8 HU.sn.rd];exact bg);obtain⟨bq,bS,dD,bT⟩:=bP;have aH:jI ((qQ r l n).1.t.size=T):=H (by rw[bq];exact C);generalize (qQ r l n).1=r4 at*;generalize (qQ r l n).2=bU at*;clear bq bS bg;go_wp2_with fail;refine aL.mono ?_;rintro e aM ⟨rfl,rfl⟩;go_wp2_with fail;refine au.mono ?_;rintro e aM ⟨rfl,ae,rfl⟩;have bV:jI (UnI b wc (rD n mt) r (u oq L cq) l (wr.drewN ae)):=H (Ul HU ae);generalize wr.drewN ae=aN at*;go_wp2_with fail;refine(bZ _ bV.sn).mono ?_;rintro e w7 ⟨cz,rfl,aI⟩;have HU7:jI (UnI b wc (rD n mt) r4 cz bU w7):=H ⟨aI,H3.2.grown aI.ql⟩;clear aI;go_wp2;go_roundw;case rel=>exact⟨r4,bU,HU7,bQ,aH,bT,bH⟩
    case measure=>
     have aG:=K8 HU7.sn.rd;rw[aH.out]at aG;rw[aG];exact bR
end
end Go.Proofs.YtamfcjmhnndbdaaGreatDoor


