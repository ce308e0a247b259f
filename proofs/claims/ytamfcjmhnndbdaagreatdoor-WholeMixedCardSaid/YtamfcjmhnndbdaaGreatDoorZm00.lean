/- Part 0 of the proof. -/
import Derived.WalkKit
import Derived.Lib.Hide
import Derived.Handy
import Derived.Deep.QuietTactic
import Derived.Laws.IdiomStrings
import Derived.Laws.BytesArg
import Derived.BigQuiet
import Derived.StillTail
import Derived.Test.YtamfcjmhnndbdaaGreatDoorRows
import Derived.WalkSpells
import Derived.RegionTactic
import Derived.BigRegion
import Derived.ChangeAlike
import Derived.Lib.Strings
import Derived.OwnWalk
import Derived.Laws.BitsAllLaws
import Derived.Deep.AppendLies
import Derived.Lib.AppendStr
import Derived.Deep.CutBlock
import Derived.Deep.DeepCutAuto
import Derived.StillTailTactics
open Go.Obj renaming cells→nH
open Go.IntKind renaming i64→nI,u64→nJ
open Go.Value renaming int→nk,pointer→nA,slice→ny,string→nz,tuple→nE,ownBlock→kJ,int→lQ
open Go.Ending renaming returned→nG,returned→lJ
open Go.Lib renaming hid→jH
open Go.Proofs.Tryz renaming prog→jI,underlying86→l6,underlying9→mH
open Go renaming World→jJ,Value→jP,Calls→jV,maxLen→j3,TypeId→ko,Addr→lH,Oper→lY,Program→ma,wpQuiet_nil→mK
open Nat renaming le_refl→jK,le_trans→jY,lt_of_lt_of_le→kG,zero_le→kH,add_assoc→kR,lt_or_ge→kZ,pow_le_pow_right→lg,add_mul→lU,two_pow_add_eq_or_of_lt→mO,le_of_lt→mX
open Go.RowKit renaming Below→jS,Hid→jX,intOf→kT
open Go.RowKit.Below renaming refl→jT,heap_setCell→j6
open And renaming intro→jU
open List renaming getElem?_eq_getElem→jW,length_append→j5,take_succ_cons→ky,length_cons→kF,take_zero→kL,length_drop→kX,replicate→lh,getElem?_eq_some_iff→lF,length_take→mi,append_assoc→mG,size_toArray→mP,length_eq_zero_iff→mU,drop_succ_cons→mW
open Bool renaming and_eq_true→j4
open UInt8 renaming ofNat→kg
open Array renaming getElem?_eq_some_iff→ku,length_toList→kY,getElem?_modify→lu,replicate→lD
open Go.World renaming setCell→kz,cell?→mI
open ByteArray renaming size_extract→kC
open Go.Code renaming region→ll
open Go.Region renaming ready→lN,binds→mh
open Option.some renaming injEq→mF
open Go.Instr renaming makeFunc→mJ
open Option renaming none→V,some→U
open Go.Addr renaming mk→Z
namespace Go.Proofs.YtamfcjmhnndbdaaGreatDoor
set_option linter.unusedVariables false
set_option linter.unusedSimpArgs false
set_option maxRecDepth 100000
set_option maxHeartbeats 8000000
variable {a:Act}{f:FuncId}{s:ByteArray}{most:Int}
theorem nV{α:Sort _}(a:α):∃b,a=b:=⟨a,rfl⟩
theorem nL{p:Prop}(h:p:=by omega):p:=h
theorem nN{p:Prop}(h:p:=by kernel_rfl):p:=h
theorem nO{p:Prop}(h:p:=by decide):p:=h
theorem nS{p:Prop}(h:p:=by simp):p:=h
theorem nT{p:Prop}(h:p:=by simp;omega):p:=h
theorem wG{p:Prop}(h:p:=by rw[beq_eq_false_iff_ne];omega):p:=h
theorem FL{p:Prop}(h:p:=by rw[bne_iff_ne];omega):p:=h
theorem Tp{p:Prop}(h:p:=by rw[beq_iff_eq];omega):p:=h
theorem yD{p:Prop}(h:p:=by unfold j3;omega):p:=h
theorem FM{p:Prop}(h:p:=by unfold Addr.add;split<;>simp_all):p:=h
theorem yZ{p:Prop}(h:p:=by decide+kernel):p:=h
section
open Go.RowKit
def nP(w:jJ)(b:Nat)(cs:Array jP)(t:ko):Prop:=w.heap[b]? =U (nH cs t (0,0))
theorem nP.lt{w:jJ}{b:Nat}{cs:Array jP}{t:ko}(h:nP w b cs t):b<w.heap.size:=(ku.1 h).1
theorem nP.cell{w:jJ}{b:Nat}{cs:Array jP}{t:ko}(h:nP w b cs t)(i:Nat):w.cell? (Z b i V)=cs[i]? :=by
 unfold nP at h;simp[mI,h]
theorem nP.c0{w:jJ}{b:Nat}{A:jP}{l:List jP}{t:ko}(h:nP w b (A::l).toArray t):w.cell? (Z b 0 V)=U A:=h.cell 0
theorem nP.c1{w:jJ}{b:Nat}{A x1:jP}{l:List jP}{t:ko}(h:nP w b (A::x1::l).toArray t):w.cell? (Z b 1 V)=U x1:=h.cell 1
theorem nP.c2{w:jJ}{b:Nat}{A x1 x2:jP}{l:List jP}{t:ko}(h:nP w b (A::x1::x2::l).toArray t):w.cell? (Z b 2 V)=U x2:=h.cell 2
theorem nP.c3{w:jJ}{b:Nat}{A x1 x2 x3:jP}{l:List jP}{t:ko}(h:nP w b (A::x1::x2::x3::l).toArray t):w.cell? (Z b 3 V)=U x3:=h.cell 3
theorem nP.c4{w:jJ}{b:Nat}{C x1 x2 x3 A:jP}{l:List jP}{t:ko}(h:nP w b (C::x1::x2::x3::A::l).toArray t):w.cell? (Z b 4 V)=U A:=h.cell 4
theorem nP.c5{w:jJ}{b:Nat}{C x1 x2 x3 E A:jP}{l:List jP}{t:ko}(h:nP w b (C::x1::x2::x3::E::A::l).toArray t):w.cell? (Z b 5 V)=U A:=h.cell 5
theorem nP.c6{w:jJ}{b:Nat}{C x1 x2 x3 E I A:jP}{l:List jP}{t:ko}(h:nP w b (C::x1::x2::x3::E::I::A::l).toArray t):w.cell? (Z b 6 V)=U A:=h.cell 6
theorem nP.c7{w:jJ}{b:Nat}{C x1 x2 x3 E I J A:jP}{l:List jP}{t:ko}(h:nP w b (C::x1::x2::x3::E::I::J::A::l).toArray t):w.cell? (Z b 7 V)=U A:=h.cell 7
theorem nP.free{w:jJ}{b:Nat}{cs:Array jP}{t:ko}(h:nP w b cs t)(i:Nat):w.frozen? (Z b i V)=false:=by
 unfold nP at h;simp[World.frozen?,h]
theorem nP.a10{w:jJ}{b:Nat}{A x1 x2 x3 C E I J N O:jP}{l:List jP}{t:ko}(h:nP w b (A :: x1 :: x2 :: x3 :: C :: E :: I :: J :: N :: O::l).toArray t):w.cell? (Z b 0 V)=U A/\w.cell? (Z b 1 V)=U x1/\w.cell? (Z b 2 V)=U x2/\w.cell? (Z b 3 V)=U x3/\w.cell? (Z b 4 V)=U C/\w.cell? (Z b 5 V)=U E/\w.cell? (Z b 6 V)=U I/\w.cell? (Z b 7 V)=U J/\w.cell? (Z b 8 V)=U N/\w.cell? (Z b 9 V)=U O:=⟨h.cell 0,h.cell 1,h.cell 2,h.cell 3,h.cell 4,h.cell 5,h.cell 6,h.cell 7,h.cell 8,h.cell 9⟩
theorem nP.a2{w:jJ}{b:Nat}{A x1:jP}{l:List jP}{t:ko}(h:nP w b (A :: x1::l).toArray t):w.cell? (Z b 0 V)=U A/\w.cell? (Z b 1 V)=U x1:=⟨h.cell 0,h.cell 1⟩
theorem nP.a3{w:jJ}{b:Nat}{A x1 x2:jP}{l:List jP}{t:ko}(h:nP w b (A :: x1 :: x2::l).toArray t):w.cell? (Z b 0 V)=U A/\w.cell? (Z b 1 V)=U x1/\w.cell? (Z b 2 V)=U x2:=⟨h.cell 0,h.cell 1,h.cell 2⟩
theorem nP.a4{w:jJ}{b:Nat}{A x1 x2 x3:jP}{l:List jP}{t:ko}(h:nP w b (A :: x1 :: x2 :: x3::l).toArray t):w.cell? (Z b 0 V)=U A/\w.cell? (Z b 1 V)=U x1/\w.cell? (Z b 2 V)=U x2/\w.cell? (Z b 3 V)=U x3:=⟨h.cell 0,h.cell 1,h.cell 2,h.cell 3⟩
theorem nP.a6{w:jJ}{b:Nat}{A x1 x2 x3 C E:jP}{l:List jP}{t:ko}(h:nP w b (A :: x1 :: x2 :: x3 :: C :: E::l).toArray t):w.cell? (Z b 0 V)=U A/\w.cell? (Z b 1 V)=U x1/\w.cell? (Z b 2 V)=U x2/\w.cell? (Z b 3 V)=U x3/\w.cell? (Z b 4 V)=U C/\w.cell? (Z b 5 V)=U E:=⟨h.cell 0,h.cell 1,h.cell 2,h.cell 3,h.cell 4,h.cell 5⟩
theorem nP.b1{w:jJ}{b:Nat}{A:jP}{l:List jP}{t:ko}(h:nP w b (A::l).toArray t):w.cell? (Z b 0 V)=U A/\w.frozen? (Z b 0 V)=false:=⟨h.cell 0,h.free 0⟩
theorem nP.b3{w:jJ}{b:Nat}{A x1 x2:jP}{l:List jP}{t:ko}(h:nP w b (A :: x1 :: x2::l).toArray t):w.cell? (Z b 0 V)=U A/\w.cell? (Z b 1 V)=U x1/\w.cell? (Z b 2 V)=U x2/\w.frozen? (Z b 0 V)=false/\w.frozen? (Z b 1 V)=false/\w.frozen? (Z b 2 V)=false:=⟨h.cell 0,h.cell 1,h.cell 2,h.free 0,h.free 1,h.free 2⟩
theorem nP.b4{w:jJ}{b:Nat}{A x1 x2 x3:jP}{l:List jP}{t:ko}(h:nP w b (A :: x1 :: x2 :: x3::l).toArray t):w.cell? (Z b 0 V)=U A/\w.cell? (Z b 1 V)=U x1/\w.cell? (Z b 2 V)=U x2/\w.cell? (Z b 3 V)=U x3/\w.frozen? (Z b 0 V)=false/\w.frozen? (Z b 1 V)=false/\w.frozen? (Z b 2 V)=false/\w.frozen? (Z b 3 V)=false:=⟨h.cell 0,h.cell 1,h.cell 2,h.cell 3,h.free 0,h.free 1,h.free 2,h.free 3⟩
theorem nP.b6{w:jJ}{b:Nat}{A x1 x2 x3 C E:jP}{l:List jP}{t:ko}(h:nP w b (A :: x1 :: x2 :: x3 :: C :: E::l).toArray t):w.cell? (Z b 0 V)=U A/\w.cell? (Z b 1 V)=U x1/\w.cell? (Z b 2 V)=U x2/\w.cell? (Z b 3 V)=U x3/\w.cell? (Z b 4 V)=U C/\w.cell? (Z b 5 V)=U E/\w.frozen? (Z b 0 V)=false/\w.frozen? (Z b 1 V)=false/\w.frozen? (Z b 2 V)=false/\w.frozen? (Z b 3 V)=false/\w.frozen? (Z b 4 V)=false/\w.frozen? (Z b 5 V)=false:=⟨h.cell 0,h.cell 1,h.cell 2,h.cell 3,h.cell 4,h.cell 5,h.free 0,h.free 1,h.free 2,h.free 3,h.free 4,h.free 5⟩
theorem nP.f3{w:jJ}{b:Nat}{cs:Array jP}{t:ko}(h:nP w b cs t):w.frozen? (Z b 0 V)=false/\w.frozen? (Z b 1 V)=false/\w.frozen? (Z b 2 V)=false:=⟨h.free 0,h.free 1,h.free 2⟩
theorem nP.f4{w:jJ}{b:Nat}{cs:Array jP}{t:ko}(h:nP w b cs t):w.frozen? (Z b 0 V)=false/\w.frozen? (Z b 1 V)=false/\w.frozen? (Z b 2 V)=false/\w.frozen? (Z b 3 V)=false:=⟨h.free 0,h.free 1,h.free 2,h.free 3⟩
theorem nP.new(w:jJ)(cs:Array jP)(t:ko):nP (w.alloc (nH cs t)) w.heap.size cs t:=heap_alloc_new w _
theorem nP.alloc{w:jJ}{b:Nat}{cs:Array jP}{t:ko}(h:nP w b cs t)(o:Obj):nP (w.alloc o) b cs t:=by
 unfold nP;rw[Below.heap_alloc w o b h.lt];exact h
theorem nP.drew{w:jJ}{b:Nat}{cs:Array jP}{t:ko}(h:nP w b cs t):nP w.drew b cs t:=h
theorem nP.set{w:jJ}{b:Nat}{cs:Array jP}{t:ko}(h:nP w b cs t)(i:Nat)(v:jP):nP (w.setCell (Z b i V) v) b (cs.setIfInBounds i v) t:=by
 unfold nP at*;simp only[kz];rw[lu,if_pos rfl,h];rfl
theorem nP.setOther{w:jJ}{b:Nat}{cs:Array jP}{t:ko}(h:nP w b cs t){a:lH}(A:b≠a.block)(v:jP):nP (w.setCell a v) b cs t:=by
 unfold nP;rw[j6 w a v b A];exact h
def pE(b:Nat)(w w':jJ):Prop:=w.grownBy w' (U b)
theorem pE.refl(b:Nat)(w:jJ):pE b w w:=World.grownBy.refl w _
theorem pE.trans{b:Nat}{u v w:jJ}(h:pE b u v)(k:pE b v w):pE b u w:=
 ⟨k.os.trans h.os,k.tape.trans h.tape,k.output.trans h.output,jY h.size k.size,λi hi A=>(k.block i (kG hi h.size) A).trans (h.block i hi A)⟩
theorem pE.drew{b:Nat}{u v:jJ}(h:pE b u v):pE b u v.drew:=⟨h.os,h.tape,h.output,h.size,h.block⟩
theorem pE.of{b:Nat}{w w':jJ}(h:jS w.heap.size w w'):pE b w w':=⟨h.os,h.tape,h.output,h.size,λi hi _=>h.block i hi⟩
theorem pE.alloc{b:Nat}{u v:jJ}(h:pE b u v)(o:Obj):pE b u (v.alloc o):=h.trans (pE.of ((jT _ _).alloc (jK _) o))
theorem pE.set{b:Nat}{u v:jJ}(h:pE b u v)(i:Nat)(x:jP):pE b u (v.setCell (Z b i V) x):=
 h.trans ⟨rfl,rfl,rfl,by simp[kz],λk _ A=>j6 _ _ _ _ (λe=>A (by rw[e]))⟩
theorem pE.Bu{b:Nat}{u v:jJ}(h:pE b u v){a:lH}(C:u.heap.size<=a.block)(x:jP):pE b u (v.setCell a x):=
 ⟨h.os,h.tape,h.output,by simpa [kz]using h.size,λk hk A=>(j6 v a x k nL).trans (h.block k hk A)⟩
theorem pE.blk{b c:Nat}{w w':jJ}{cs:Array jP}{t:ko}(h:pE b w w')(hc:nP w c cs t)(A:c≠b):nP w' c cs t:=by
 unfold nP;rw[h.block c hc.lt (by simpa using A)];exact hc
theorem pE.below{b B:Nat}{w0 w w':jJ}(h:pE b w w')(hb:jS B w0 w)(hB:B<=b)(A:B<=w.heap.size):jS B w0 w':=
 hb.grown h A λk hk=>by simp at hk;omega
theorem Below.blk{B c:Nat}{w w':jJ}{cs:Array jP}{t:ko}(h:jS B w w')(hc:nP w c cs t)(hlt:c<B):nP w' c cs t:=by
 unfold nP;rw[h.block c hlt];exact hc
theorem Calls.VQ{P:ma}{args:Array jP}{w:jJ}{n:Nat}{v:jP}(h:jV P f args (w.drewN n) λe w'=>e=nG v/\w.drewN n=w'):jV P f args (w.drewN n) λe A=>e=nG v/\∃m,A=w.drewN m:=
 h.mono λ_ _ ⟨he,C⟩=>⟨he,n,C.symm⟩
theorem nP.drewN{w:jJ}{b:Nat}{cs:Array jP}{t:ko}(h:nP w b cs t)(n:Nat):nP (w.drewN n) b cs t:=h
theorem uR{P:ma}{c:Code}{Q:Exit->Act->jJ->Prop}{W:jJ}(F:jJ->Prop)(hF:F W)(h:∀w,F w->c.wp P Q a w):c.wp P Q a W:=h W hF
structure oN(b q:Nat)(w w':jJ):Prop where
 os:w'.os=w.os
 tape:w'.tape=w.tape
 output:w'.output=w.output
 size:w.heap.size<=w'.heap.size
 block:∀k,k<w.heap.size->k≠b->k≠q->w'.heap[k]? =w.heap[k]?
theorem oN.refl(b q:Nat)(w:jJ):oN b q w w:=⟨rfl,rfl,rfl,jK _,λ_ _ _ _=>rfl⟩
theorem oN.trans{b q:Nat}{u v w:jJ}(h:oN b q u v)(k:oN b q v w):oN b q u w:=
 ⟨k.os.trans h.os,k.tape.trans h.tape,k.output.trans h.output,jY h.size k.size,λi hi hb A=>(k.block i (kG hi h.size) hb A).trans (h.block i hi hb A)⟩
theorem oN.drew{b q:Nat}{u v:jJ}(h:oN b q u v):oN b q u v.drew:=⟨h.os,h.tape,h.output,h.size,h.block⟩
theorem oN.drewN{b q:Nat}{u v:jJ}(h:oN b q u v)(n:Nat):oN b q u (v.drewN n):=⟨h.os,h.tape,h.output,h.size,h.block⟩
theorem oN.Bv{b q:Nat}{u v:jJ}(h:oN b q u v)(i:Nat)(x:jP):oN b q u (v.setCell (Z b i V) x):=
 h.trans ⟨rfl,rfl,rfl,by simp[kz],λk _ hb _=>j6 _ _ _ _ hb⟩
theorem oN.OJ{b q:Nat}{u v:jJ}(h:oN b q u v)(i:Nat)(x:jP):oN b q u (v.setCell (Z q i V) x):=
 h.trans ⟨rfl,rfl,rfl,by simp[kz],λk _ _ A=>j6 _ _ _ _ A⟩
theorem oN.blk{b q c:Nat}{w w':jJ}{cs:Array jP}{t:ko}(h:oN b q w w')(hc:nP w c cs t)(hb:c≠b)(A:c≠q):nP w' c cs t:=by
 unfold nP;rw[h.block c hc.lt hb A];exact hc
theorem oN.upd{b q:Nat}{u w w':jJ}(h:oN b q w w')(A:pE b u w)(E:u.heap.size<=q):pE b u w':=
 ⟨h.os.trans A.os,h.tape.trans A.tape,h.output.trans A.output,jY A.size h.size,λk hk C=>
  (h.block k (kG hk A.size) (by simpa using C) nL).trans (A.block k hk C)⟩
theorem pE.drewN{b:Nat}{u v:jJ}(h:pE b u v)(n:Nat):pE b u (v.drewN n):=⟨h.os,h.tape,h.output,h.size,h.block⟩
def nU(l:List UInt8):List jP:=l.map λb=> nk .u8 (b.toNat:Int)
@[simp] theorem qZ (l:List UInt8):(nU l).length=l.length:=by simp[nU]
theorem o8(l m:List UInt8):nU (l++m)=nU l++nU m:=by simp[nU]
def ow(w:jJ)(B:Nat)(e:ko)(v:jP)(l:List UInt8):Prop:=w.ownsRow B e 1 v l.length (nU l)
structure pX(P:ma)(t e s:ko):Prop where
 ht:P.underlying t=U (.slice e)
 he:P.underlying e=U (.int .u8)
 hs:P.underlying s=U .string
 hi:(P.info? e).map (λi=>(i.zero,i.size,i.bytes))=U (U (nk .u8 0),1,1)
section
variable {P:ma}{t e s:ko}
theorem ow.nil(w:jJ)(B:Nat)(e:ko):ow w B e (ny V 0 0) []:=World.ownsRow_nil w B e 1
theorem ow.made(w:jJ)(B:Nat)(e:ko)(A:Array jP)(cap:Nat)(hb:B<=w.heap.size)(C:cap<=j3)(hs:A.size=cap):
  ow (w.alloc (nH A e)) B e (ny (U (Z w.heap.size 0 V)) 0 cap) []:=World.ownsRow_made w A cap hb C (by simpa using hs)
theorem ow.drew{w:jJ}{B:Nat}{v:jP}{l:List UInt8}(h:ow w B e v l):ow w.drew B e v l:=World.ownsRow.drew h
theorem ow.alloc{w:jJ}{B:Nat}{v:jP}{l:List UInt8}(h:ow w B e v l)(o:Obj):ow (w.alloc o) B e v l:=World.ownsRow.alloc h o
theorem ow.below{w w':jJ}{B:Nat}{v:jP}{l:List UInt8}(h:ow w B e v l)(hb:jS w.heap.size w w'):ow w' B e v l:=by
 obtain⟨h1,h2⟩:=h;refine⟨h1,?_⟩;rcases h2 with h2|⟨g,cap,A,C,hg,hh,r⟩
 .exact .inl h2
 .refine .inr ⟨g,cap,A,C,hg,?_,r⟩
  rw[hb.block g (ku.1 hh).1];exact hh
theorem Re{p:Prop}(h:p:=by
 rw[run_convert_bytes_string w t s e _ _ _ T.ht T.he T.hs];simp[Conv.bytesToString,ByteArray.empty,ByteArray.emptyWithCapacity];rfl):p:=h
theorem ow.string{w:jJ}{B:Nat}{v:jP}{l:List UInt8}(T:pX P t e s)(h:ow w B e v l):
  (convert t s v).run P w=.ok (nz ⟨l.toArray⟩) w:=by
 rcases h.2 with⟨rfl,h0⟩|⟨g,cap,E,rfl,hb,hg,A,I,hsz,htake⟩
 .have:l=[]:=mU.1 h0
  subst this;exact Re
 .refine run_convert_bytes_back w t s e (Z g 0 V) cap l T.ht T.he T.hs λj C=> ?_
  have:=World.ownsRow.cells h (g:=g) rfl j (nk .u8 (l[j].toNat:Int)) (by simp[nU,jW C]);exact this
theorem FN(T:pX P t e s)(w:jJ)(l:List UInt8)(cs:Array jP)(n:Nat)(hn:n=l.length)(A:cs.toList=nU l)(C:n<=j3):
  (convert t s (ny (U (Z w.heap.size 0 V)) n n)).run P (w.alloc (nH cs e))=.ok (nz ⟨l.toArray⟩) (w.alloc (nH cs e)):=by
 subst hn;have:ow (w.alloc (nH cs e)) 0 e (ny (U (Z w.heap.size 0 V)) l.length l.length) l:=by
  have:=World.ownsRow_lit (base:=0) (e:=e) (size:=1) w cs l.length (kH _) C (by
   have:=congrArg List.length A;simpa using this)
  rw[A]at this;exact this
 exact this.string T
theorem rO(l:List UInt8):∀u∈nU l,u.oneCell'=true:=by
 intro u A;simp[nU]at A;obtain⟨b,_,rfl⟩:=A;rfl
theorem oU(T:pX P t e s){ops:Array lY}{rest:List lY}{o:lY}{Q:Exit->Act->jJ->Prop}(E:o.guard=V)(x y:Operand)(ho:o.op=.call {callee:=.builtin .append,args:=#[x,y],argTypes:=#[t,t]})(B:Nat)(v:jP)(l m:List UInt8)(k:Nat)(hk:k=m.length)(w:jJ)(cs:Array jP)(I:cs.toList=nU m)(Y:a.eval x=v)(A:ow w B e v l)(aa:a.eval y=ny (U (Z w.heap.size 0 V)) k k)(hlen:l.length+k<=140737488355328)(hB:B<=w.heap.size)(h:∀v' w',ow w' B e v' (l++m)->jS B w w'->w.heap.size<w'.heap.size->wpList P ops Q rest (a.put o.dst v') w'):
  wpList P ops Q (o::rest) a (w.alloc (nH cs e)):=by
 subst hk;obtain⟨ae,hi,J,N,O⟩:=info_parts T.hi
 refine wpList_append_own _ E x y t ho B e ae (nk .u8 0) 1 1 T.ht hi J N O rfl nO v l.length (nU l) Y (A.alloc _)
  (Z w.heap.size 0 V) m.length m.length (nU m) aa nS ?_ (rO m) yD nL nT ?_
 .intro j u C
  have e1:((Z w.heap.size 0 V):lH).add j=(Z w.heap.size j V):=FM;rw[e1,World.cell?_alloc_mark w cs e (0,0) j,<-C,<-I,Array.getElem?_toList]
 .intro v' w' h1 h2 _
  refine h v' w' ?_ ?_ ?_
  .show w'.ownsRow B e 1 v' (l++m).length (nU (l++m))
   rw[j5,o8];exact h1
  .refine((jT B w).alloc hB _).grown h2 nT λj C=> ?_
   exact(World.ownsRow.lt A j C).1
  .have:=h2.size;simp at this;omega
end
structure rP(w:jJ) where
 at_:jJ
 is:jS w.heap.size w at_
instance(w:jJ):Nonempty (rP w):=⟨⟨w,jT _ _⟩⟩
def After(w:jJ):jJ->Prop:=λw'=>jS w.heap.size w w'
theorem After.trans{a b c:jJ}(h:After a b)(k:After b c):After a c:=Below.trans h (Below.mono k h.size)
theorem oz{P:ma}{id:Nat}{Q:Exit->Act->jJ->Prop}{w:jJ}{l:List lY}(E:P.follows .mixedOrders=true)(hB:Region.lexB .any l.toArray=true)(h:wpQuiet P l.toArray (λw'=>∃x:rP w,w'=x.at_) (λA=>∀x:rP w,Q .normal A x.at_) l a):(ll id l.toArray true).wp P Q a w:=by
 refine wp_region_quiet (C:=λw'=>∃x:rP w,w'=x.at_) E hB ⟨⟨_,(jT _ _).drew⟩,rfl⟩ ?_;have e:(λA:Act=>∀w',(∃x:rP w,w'=x.at_)->Q .normal A w')=λA=>∀x:rP w,Q .normal A x.at_:=by
  funext A;exact propext ⟨λh x=>h _ ⟨x,rfl⟩,λh w' ⟨x,I⟩=>I▸h x⟩
 rw[e];simpa using h
theorem Calls.after{P:ma}{args:Array jP}{w:jJ}{x:rP w}{v:jP}(h:jV P f args x.at_ λe w'=>e=nG v/\jS x.at_.heap.size x.at_ w'):jV P f args x.at_ λe A=>e=nG v/\∃y:rP w,A=y.at_:=
 h.mono λ_ w' ⟨he,C⟩=>⟨he,⟨w',After.trans x.is C⟩,rfl⟩
theorem size_mk(l:List UInt8):(⟨l.toArray⟩:ByteArray).size=l.length:=mP
theorem FO(n:Nat)(h:n<256):(kg n).toNat=n:=by
 show n % 256=n;exact Nat.mod_eq_of_lt h
theorem xW{x:Int}{n:Nat}(A:x=(n:Int))(h:n<256):[lQ .u8 x]=nU [kg n]:=by
 subst A;simp[nU,FO n h]
section
variable {P:ma}{ops:Array lY}{md:Region.Mode}{C:jJ->Prop}
def LQ(P:ma)(md:Region.Mode)(ops:Array lY)(C:jJ->Prop)(n:Nat)(L:Array Bool->Act->Prop):Nat->Array Bool->Act->Prop
 |0,A,a=>L A a
 |f+1,A,a=>lN md ops A≠[]/\∀i∈lN md ops A,i<n/\qOp P ops C i (LQ P md ops C n L f (A.setIfInBounds i true)) a
theorem Cj{n g:Nat}{L:Array Bool->Act->Prop}{Q:Exit->Act->jJ->Prop}(hL:∀A a w,C w->L A a->wpAny P md ops Q g A a w):
  ∀(f:Nat)(A:Array Bool)(a:Act)(w:jJ),C w->LQ P md ops C n L f A a->wpAny P md ops Q (f+g) A a w
 |0,A,a,w,E,h=>by rw[Nat.zero_add];exact hL _ _ _ E h
 |f+1,A,a,w,E,h=>by
  rw[show f+1+g=(f+g)+1 by omega];exact⟨λh0=>absurd h0 h.1,λi hi=>wpOp_of_qOp E (λJ w' I N=>Cj hL f _ J w' I N) (h.2 i hi).2⟩
theorem Rf{p:Prop}(h:p:=by
 rcases kZ j n with h|h
 .exact h
 .exact absurd hj (tail_waits hs hc hn inv _ i rfl hin hun j h)):p:=h
theorem LU{n i:Nat}{oi:lY}{v:jP}{L:Array Bool->Act->Prop}(hi:ops[i]? =U oi)(Q:∀(j:Nat) (o:lY) cs b,ops[j]? =U o->o.op≠.select cs b)(hs:Region.sinkB md ops n=true)(hc:Region.chainB md ops n=true)(hn:n<ops.size)(hin:i<n)(hdone:∀A a,L A a->∀j∈lN md ops A,n<=j):
  ∀(f:Nat)(A:Array Bool)(a:Act),HeadInv md ops n A->
   (∀j J,ops[j]? =U J->j≠i->A.getD j true=false->(∀e∈J.after,mh md e=true->e.on≠i)->oi.apart ops J=true)->
   i∈lN md ops A->YieldsIn P ops C oi v a->
   LQ P md ops C n L f (A.setIfInBounds i true) (a.put oi.dst v)->LQ P md ops C n L (f+1) A a:=by
 intro f;induction f with
 |zero=>
  intro A a inv _ I af H;have hun:=(mem_ready.1 I).1;refine⟨λh=>(by rw[h]at I;cases I),λj hj=> ?_⟩;have N:j<n:=by
   exact Rf
  refine⟨N,?_⟩;by_cases E:j=i;.subst E;exact af.qOp hi H
  .have:=hdone _ _ H j (ready_mono hj E)
   omega
 |succ f ax=>
  intro A a inv O I af H;have hun:=(mem_ready.1 I).1;refine⟨λh=>(by rw[h]at I;cases I),λj hj=> ?_⟩;have N:j<n:=by
   exact Rf
  refine⟨N,?_⟩;by_cases E:j=i;.subst E;exact af.qOp hi H
  .have h1:=(H.2 j (ready_mono hj E)).2
   obtain⟨Y,J,aa,ah⟩:=mem_ready.1 hj;have ai:∀e∈J.after,mh md e=true->e.on≠i:=λe he hb aj=>by
    have h1:=ah e he hb;rw[aj,getD_both hun]at h1;cases h1
   have h2:=qOp_put aa (O j J aa E Y ai) (λcs b=>Q i oi cs b hi) (λcs b=>Q j J cs b aa) af h1
   have ae:∀k ok,ops[k]? =U ok->k≠i->(A.setIfInBounds j true).getD k true=false->
     (∀e∈ok.after,mh md e=true->e.on≠i)->oi.apart ops ok=true:=λk ok hk ak hun au=>by
    refine O k ok hk ak ?_ au;by_cases ag:j=k;.subst ag;exact Y
    .rw[getD_set_ne true ag]at hun;exact hun
   refine qOp_mono (λay av=>ax (A.setIfInBounds j true) ay (inv.set hj N) ae (ready_mono I (Ne.symm E)) av.1 ?_) h2;rw[Array.setIfInBounds_comm _ _ E];exact av.2
theorem IY{n g:Nat}{O:Act->Prop}(I:Region.noSelect ops=true)(hs:Region.sinkB md ops n=true)(hc:Region.chainB md ops n=true)(hn:n<ops.size):
  ∀(l:List lY)(k:Nat)(A:Array Bool)(a:Act),(∀j,j<l.length->l[j]? =ops[k+j]?)->k+l.length=n->HeadInv md ops n A->
  Region.lexHead md ops g l.length k A=true->wpQuiet P ops C O l a->
  LQ P md ops C n (λE Q=>Region.seqB md ops g n E=true/\O Q) l.length A a
 |[],k,A,a,_,hk,_,hB,h=>by
  have:k=n:=by simpa using hk
  subst this;exact⟨by simpa [Region.lexHead]using hB,h⟩
 |o::l,k,A,a,hl,hk,inv,hB,h=>by
  have h0:ops[k]? =U o:=by simpa using(hl 0 nS).symm
  simp only[kF,Region.lexHead,j4]at hB;obtain⟨⟨aa,ae⟩,Y⟩:=hB;have J:k<n:=by simp only[kF]at hk;omega
  have N:k∈lN md ops A:=by simpa using aa
  have hst:qOp P ops C k (wpQuiet P ops C O l) a:=by unfold qOp;simp only[h0];exact h
  obtain⟨v,af,ag⟩:=yieldsIn_of_qOp h0 hst
  exact LU h0 (Region.noSelect_spec I) hs hc hn J (λE Q hL=>seqB_ready hL.1) l.length A a inv (Region.free_spec h0 ae) N af
   (IY I hs hc hn l (k+1) _ _ (λj ah=>by have:=hl (j+1) nT;simpa [kR,Nat.add_comm 1 j]using this) (by simp only[kF]at hk;omega) (inv.set N J) Y ag)
theorem vE{id:Nat}{Q:Exit->Act->jJ->Prop}{w:jJ}{l:List lY}(n:Nat)(af:P.follows .mixedOrders=true)(hB:Region.lexTailB .any l.toArray n=true)(ag:C {w with drawn:=w.drawn+1})(h:wpQuiet P l.toArray C (λI=>∀w',C w'->wpList P l.toArray Q (l.drop n) I w') (l.take n) a):(ll id l.toArray true).wp P Q a w:=by
 simp only[Region.lexTailB,j4,decide_eq_true_eq]at hB;obtain⟨⟨⟨⟨J,hn⟩,hs⟩,hc⟩,N⟩:=hB;have ah:n<l.length:=by simpa using hn
 have htl:(l.take n).length=n:=nT;have E:(l.drop n).length=l.toArray.size - n:=nS
 have O:HeadInv .any l.toArray n (lD l.toArray.size false):=
  ⟨nS,λj ai _ hl=>(by rw[getD_replicate_false]at hl;cases hl),λt _ ht=>getD_in (by simpa using ht) (getD_replicate_false _ _)⟩
 have H:=IY (md:=.any) (C:=C) (g:=l.toArray.size - n) J hs hc hn (l.take n) 0 _ a (λj Y=>by
  have aa:j<n:=by rw[htl]at Y;exact Y
  simp[aa]) (by simpa using htl) O (by rw[htl];exact N) h
 refine wp_region_any af ?_;have:=Cj (Q:=Q) (g:=l.toArray.size - n) (λA I w' ae hL=>by
  have:=wpAny_of_seq (md:=.any) (Q':=Q) (l.drop n) n A I w' (λj=>by simp[List.getElem?_drop]) (by rw[E];exact hL.1) (hL.2 w' ae);rwa [E]at this) _ _ _ _ ag H
 rw[htl,show n+(l.toArray.size - n)=l.toArray.size by omega]at this;exact this
theorem vF{id:Nat}{Q:Exit->Act->jJ->Prop}{w:jJ}{l:List lY}(n:Nat)(E:P.follows .mixedOrders=true)(hB:Region.lexTailB .any l.toArray n=true)(h:wpQuiet P l.toArray (λw'=>∃x:rP w,w'=x.at_) (λA=>∀x:rP w,wpList P l.toArray Q (l.drop n) A x.at_) (l.take n) a):(ll id l.toArray true).wp P Q a w:=by
 refine vE (C:=λw'=>∃x:rP w,w'=x.at_) n E hB ⟨⟨_,(jT _ _).drew⟩,rfl⟩ ?_;have e:(λA:Act=>∀w',(∃x:rP w,w'=x.at_)->wpList P l.toArray Q (l.drop n) A w')=λA=>∀x:rP w,wpList P l.toArray Q (l.drop n) A x.at_:=by
  funext A;exact propext ⟨λh x=>h _ ⟨x,rfl⟩,λh w' ⟨x,I⟩=>I▸h x⟩
 rw[e];exact h
theorem pU{id:Nat}{Q:Exit->Act->jJ->Prop}{w:jJ}{l:List lY}(n:Nat)(E:P.follows .mixedOrders=true)(hB:Region.lexTailB .any l.toArray n=true)(h:wpQuiet P l.toArray (λw'=>∃k,w'=w.drewN k) (λA=>∀k,wpList P l.toArray Q (l.drop n) A (w.drewN k)) (l.take n) a):(ll id l.toArray true).wp P Q a w:=by
 refine vE (C:=λw'=>∃k,w'=w.drewN k) n E hB ⟨1,rfl⟩ ?_;have e:(λA:Act=>∀w',(∃k,w'=w.drewN k)->wpList P l.toArray Q (l.drop n) A w')=λA=>∀k,wpList P l.toArray Q (l.drop n) A (w.drewN k):=by
  funext A;exact propext ⟨λh k=>h _ ⟨k,rfl⟩,λh w' ⟨k,hk⟩=>hk▸h k⟩
 rw[e];exact h
end
structure RS where
 t:ByteArray
 p:Nat
 f:Int
def RS.cs(r:RS):Array jP:=#[nz r.t,nk nI r.p,nk nI r.f]
def RS.Ok(r:RS):Prop:=r.p<=r.t.size/\r.t.size<=9223372036854775807
def vW(w:jJ)(b:Nat)(r:RS):Prop:=nP w b r.cs 220
theorem VR(b A C q:Nat)(n:Int)(w:jJ)(h0:n<0)(hn:w.cell? (Z A 0 V)=U (nk nI n)):
  jV jI 184 #[nA (U (Z A 0 V)),nA (U (Z C 0 V)),nA (U (Z q 0 V))] w λe w'=>e=nG (nk nI 1)/\w=w':=by
 go_in;go_wp2;go_returns;exact⟨rfl,rfl⟩
theorem Tq(b A C q:Nat)(t:ByteArray)(p:Nat)(f n:Int)(w:jJ)(hp:p<=t.size)(ht:t.size<=9223372036854775807)(h0:0<=n)(h1:(t.size:Int) - p<n)(hb:nP w b (RS.cs ⟨t,p,f⟩) 220)(hn:w.cell? (Z A 0 V)=U (nk nI n))(E:w.cell? (Z C 0 V)=U (nA (U (Z b 0 V)))):
  jV jI 184 #[nA (U (Z A 0 V)),nA (U (Z C 0 V)),nA (U (Z q 0 V))] w λe w'=>e=nG (nk nI 2)/\∃k,w'=w.drewN k:=by
 have c0:=hb.cell 0;have c1:=hb.cell 1;simp[RS.cs]at c0 c1;have I:decide (n<0)=false:=by simpa using h0
 go_in;go_wp2;go_quiet (fail);go_wp2;go_returns;exact⟨rfl,_,rfl⟩
theorem a0j(b C E q:Nat)(t:ByteArray)(p m:Nat)(f:Int)(w:jJ)(ht:t.size<=9223372036854775807)(h1:p+m<=t.size)(A:q≠b)(J:E≠q)(N:C≠q)(hb:nP w b (RS.cs ⟨t,p,f⟩) 220)(I:nP w q #[nz ⟨#[]⟩] 9)(hn:w.cell? (Z C 0 V)=U (nk nI m))(Y:w.cell? (Z E 0 V)=U (nA (U (Z b 0 V)))):
  jV jI 184 #[nA (U (Z C 0 V)),nA (U (Z E 0 V)),nA (U (Z q 0 V))] w λe w'=>e=nG (nk nI 0)/\oN b q w w'/\
   nP w' b (RS.cs ⟨t,p+m,f⟩) 220/\nP w' q #[nz (t.extract p (p+m))] 9:=by
 have c0:=hb.cell 0;have c1:=hb.cell 1;have f1:=hb.free 1;have O:=I.cell 0;have aa:=I.free 0;simp[RS.cs]at c0 c1 O;have ae:decide ((m:Int)<0)=false:=nS;have af:decide ((t.size:Int) - p<m)=false:=nT;go_in;go_wp2;go_quiet (fail);go_wp2;refine pU 15 nN nN ?_;simp only[ky,kL,mW,List.drop_zero];repeat(go_big_quiet_step (fail))
 refine mK ?_;intro Q;go_wp2;refine pU 8 nN nN ?_;simp only[ky,kL,mW,List.drop_zero];repeat(go_big_quiet_step (fail))
 refine mK ?_;intro ag;go_wp2;go_returns;exact⟨rfl,((((oN.refl b q w).drewN _).OJ 0 _).Bv 1 _).drewN _,((hb.drewN _).setOther (Ne.symm A) _).set 1 _,((I.drewN _).set 0 _).setOther A _⟩
theorem Tt(b A q:Nat)(t:ByteArray)(p:Nat)(f:Int)(w:jJ)(ht:t.size<=9223372036854775807)(hp:p<=t.size)(h1:t.size<=p)(hb:nP w b (RS.cs ⟨t,p,f⟩) 220)(C:w.cell? (Z A 0 V)=U (nA (U (Z b 0 V)))):
  jV jI 259 #[nA (U (Z A 0 V)),nA (U (Z q 0 V))] w λe w'=>e=nG (nk nI 2)/\∃k,w'=w.drewN k:=by
 have c0:=hb.cell 0;have c1:=hb.cell 1;simp[RS.cs]at c0 c1;go_in;go_wp2;go_quiet (fail);go_wp2;go_returns;exact⟨rfl,_,rfl⟩
theorem a0k(b C q:Nat)(t:ByteArray)(p:Nat)(f:Int)(w:jJ)(ht:t.size<=9223372036854775807)(h1:p<t.size)(A:q≠b)(I:C≠q)(hb:nP w b (RS.cs ⟨t,p,f⟩) 220)(E:nP w q #[nk .u8 0] 5)(N:w.cell? (Z C 0 V)=U (nA (U (Z b 0 V)))):
  jV jI 259 #[nA (U (Z C 0 V)),nA (U (Z q 0 V))] w λe w'=>e=nG (nk nI 0)/\oN b q w w'/\
   nP w' b (RS.cs ⟨t,p+1,f⟩) 220/\nP w' q #[nk .u8 (t[p].toNat:Int)] 5:=by
 have c0:=hb.cell 0;have c1:=hb.cell 1;have f1:=hb.free 1;have J:=E.cell 0;have O:=E.free 0;simp[RS.cs]at c0 c1 J;go_in;go_wp2;go_quiet (fail);go_wp2;refine pU 9 nN nN ?_;simp only[ky,kL,mW,List.drop_zero];repeat(go_big_quiet_step (fail))
 refine mK ?_;intro Q;go_wp2;go_returns;exact⟨rfl,(((oN.refl b q w).drewN _).OJ 0 _).Bv 1 _,((hb.drewN _).setOther (Ne.symm A) _).set 1 _,((E.drewN _).set 0 _).setOther A _⟩
theorem OL(b A C q:Nat)(n:Int)(w:jJ)(h0:¬0<n)(hn:w.cell? (Z A 0 V)=U (nk nI n)):
  jV jI 270 #[nA (U (Z A 0 V)),nA (U (Z C 0 V)),nA (U (Z q 0 V))] w λe w'=>e=nG (nk nI 0)/\w=w':=by
 go_in;go_wp2;go_returns;exact⟨rfl,rfl⟩
theorem VS(b C E q:Nat)(t:ByteArray)(p m:Nat)(f n:Int)(w:jJ)(ht:t.size<=9223372036854775807)(hp:p<=t.size)(h0:0<n)(J:m=min n.toNat (t.size - p))(I:q≠b)(hb:nP w b (RS.cs ⟨t,p,f⟩) 220)(A:nP w q #[nz ⟨#[]⟩] 9)(hn:w.cell? (Z C 0 V)=U (nk nI n))(Y:w.cell? (Z E 0 V)=U (nA (U (Z b 0 V)))):
  jV jI 270 #[nA (U (Z C 0 V)),nA (U (Z E 0 V)),nA (U (Z q 0 V))] w λe w'=>e=nG (nk nI 0)/\oN b q w w'/\
   nP w' b (RS.cs ⟨t,p,f⟩) 220/\nP w' q #[nz (t.extract p (p+m))] 9:=by
 have c0:=hb.cell 0;have c1:=hb.cell 1;have N:=A.cell 0;have aa:=A.free 0;simp[RS.cs]at c0 c1 N;have O:(if(t.size:Int) - p<n then(t.size:Int) - p else n)=(m:Int):=by split<;>omega
 have Q:p+m<=t.size:=nL;clear J;go_in;go_wp2;refine pU 26 nN nN ?_;simp only[ky,kL,mW,List.drop_zero];repeat(go_big_quiet_step (fail))
 refine mK ?_;intro k;go_wp2;go_returns;exact⟨rfl,((oN.refl b q w).drewN _).OJ 0 _,(hb.drewN _).setOther (Ne.symm I) _,(A.drewN _).set 0 _⟩
theorem Tu(A:Nat)(x:Int)(w:jJ)(hn:w.cell? (Z A 0 V)=U (nk nI x)):
  jV jI 225 #[nA (U (Z A 0 V))] w λe w'=>e=nG (nk nI x)/\w=w':=by
 go_in;go_wp2;go_returns;exact⟨rfl,rfl⟩
theorem Ck(b:Nat)(r:RS)(v:jP)(w:jJ)(A:((r.f:Int)==0)=false)(hb:vW w b r):
  jV jI 183 #[nA (U (Z b 0 V)),v] w λe w'=>e=nG (nE #[])/\w=w':=by
 obtain⟨t,p,f⟩:=r;have c2:=nP.cell hb 2;simp[RS.cs]at c2;simp only at A;go_in;go_wp2;go_returns;exact⟨rfl,rfl⟩
theorem Bw(b q:Nat)(t:ByteArray)(p C:Nat)(x:Int)(cf:Array jP)(R:jJ->Prop)(w:jJ)(hb:vW w b ⟨t,p,0⟩)(E:∀w i v,R w->R (w.setCell (Z b i V) v))(h1:jV jI 184 cf w λe w'=>e=nG (nk nI x)/\oN b q w w'/\vW w' b ⟨t,C,0⟩/\R w'):
  jV jI 183 #[nA (U (Z b 0 V)),.func (.func 184) #[] cf] w λe w'=>e=nG (nE #[])/\oN b q w w'/\vW w' b ⟨t,C,x⟩/\R w':=by
 have c2:=nP.cell hb 2;simp[RS.cs]at c2;have J:=jH h1;have N:=jH E;clear h1 E;go_in;go_wp2_with fail;refine J.mono ?_;rintro e w1 ⟨rfl,O,A,I⟩;have d2:=nP.cell A 2;have f2:=nP.free A 2;simp[RS.cs]at d2;go_wp2_with fail;go_returns;exact⟨rfl,O.Bv 2 _,nP.set A 2 _,N _ _ _ I⟩
theorem FP(b q:Nat)(t:ByteArray)(p C:Nat)(x:Int)(cf:Array jP)(R:jJ->Prop)(w:jJ)(hb:vW w b ⟨t,p,0⟩)(E:∀w i v,R w->R (w.setCell (Z b i V) v))(h1:jV jI 259 cf w λe w'=>e=nG (nk nI x)/\oN b q w w'/\vW w' b ⟨t,C,0⟩/\R w'):
  jV jI 183 #[nA (U (Z b 0 V)),.func (.func 259) #[] cf] w λe w'=>e=nG (nE #[])/\oN b q w w'/\vW w' b ⟨t,C,x⟩/\R w':=by
 have c2:=nP.cell hb 2;simp[RS.cs]at c2;have J:=jH h1;have N:=jH E;clear h1 E;go_in;go_wp2_with fail;refine J.mono ?_;rintro e w1 ⟨rfl,O,A,I⟩;have d2:=nP.cell A 2;have f2:=nP.free A 2;simp[RS.cs]at d2;go_wp2_with fail;go_returns;exact⟨rfl,O.Bv 2 _,nP.set A 2 _,N _ _ _ I⟩
theorem Er(b q:Nat)(t:ByteArray)(p C:Nat)(x:Int)(cf:Array jP)(R:jJ->Prop)(w:jJ)(hb:vW w b ⟨t,p,0⟩)(E:∀w i v,R w->R (w.setCell (Z b i V) v))(h1:jV jI 270 cf w λe w'=>e=nG (nk nI x)/\oN b q w w'/\vW w' b ⟨t,C,0⟩/\R w'):
  jV jI 183 #[nA (U (Z b 0 V)),.func (.func 270) #[] cf] w λe w'=>e=nG (nE #[])/\oN b q w w'/\vW w' b ⟨t,C,x⟩/\R w':=by
 have c2:=nP.cell hb 2;simp[RS.cs]at c2;have J:=jH h1;have N:=jH E;clear h1 E;go_in;go_wp2_with fail;refine J.mono ?_;rintro e w1 ⟨rfl,O,A,I⟩;have d2:=nP.cell A 2;have f2:=nP.free A 2;simp[RS.cs]at d2;go_wp2_with fail;go_returns;exact⟨rfl,O.Bv 2 _,nP.set A 2 _,N _ _ _ I⟩
theorem OM(b q:Nat)(t:ByteArray)(p C:Nat)(x:Int)(cf:Array jP)(R:jJ->Prop)(w:jJ)(hb:vW w b ⟨t,p,0⟩)(E:∀w i v,R w->R (w.setCell (Z b i V) v))(h1:jV jI 225 cf w λe w'=>e=nG (nk nI x)/\pE b w w'/\vW w' b ⟨t,C,0⟩/\R w'):
  jV jI 183 #[nA (U (Z b 0 V)),.func (.func 225) #[] cf] w λe w'=>e=nG (nE #[])/\pE b w w'/\vW w' b ⟨t,C,x⟩/\R w':=by
 have c2:=nP.cell hb 2;simp[RS.cs]at c2;have J:=jH h1;have N:=jH E;clear h1 E;go_in;go_wp2_with fail;refine J.mono ?_;rintro e w1 ⟨rfl,O,A,I⟩;have d2:=nP.cell A 2;have f2:=nP.free A 2;simp[RS.cs]at d2;go_wp2_with fail;go_returns;exact⟨rfl,O.set 2 _,nP.set A 2 _,N _ _ _ I⟩
abbrev uw:ByteArray:=⟨#[]⟩
def RS.of(t:ByteArray):RS:=⟨t,0,0⟩
def RS.take(r:RS)(n:Int):RS×ByteArray:=
 if r.f=0 then
  if n<0 then(⟨r.t,r.p,1⟩,uw)else if(r.t.size:Int) - r.p<n then(⟨r.t,r.p,2⟩,uw)else(⟨r.t,r.p+n.toNat,0⟩,r.t.extract r.p (r.p+n.toNat))
 else(r,uw)
def RS.byte(r:RS):RS×Int:=
 if r.f=0 then if h:r.p<r.t.size then(⟨r.t,r.p+1,0⟩,(r.t[r.p].toNat:Int))else(⟨r.t,r.p,2⟩,0)else(r,0)
def RS.ahead(r:RS)(n:Int):ByteArray:=
 if r.f=0 then if 0<n then r.t.extract r.p (r.p+min n.toNat (r.t.size - r.p))else uw else uw
def RS.fail(r:RS)(x:Int):RS:=if r.f=0 then⟨r.t,r.p,x⟩else r
theorem RS.Ok.of{t:ByteArray}(h:t.size<=9223372036854775807):(RS.of t).Ok:=⟨kH _,h⟩
theorem RS.Ok.take{r:RS}(h:r.Ok)(n:Int):(r.take n).1.Ok:=by
 obtain⟨h1,h2⟩:=h;unfold RS.take;split
 .split
  .exact⟨h1,h2⟩
  .split
   .exact⟨h1,h2⟩
   .exact⟨by simp only[];omega,h2⟩
 .exact⟨h1,h2⟩
theorem RS.Ok.byte{r:RS}(h:r.Ok):r.byte.1.Ok:=by
 obtain⟨h1,h2⟩:=h;unfold RS.byte;split
 .split
  .exact⟨by simp only[];omega,h2⟩
  .exact⟨h1,h2⟩
 .exact⟨h1,h2⟩
theorem RS.Ok.fail{r:RS}(h:r.Ok)(x:Int):(r.fail x).Ok:=by
 obtain⟨h1,h2⟩:=h;unfold RS.fail;split<;>exact⟨h1,h2⟩
def zx(b:Nat)(w:jJ)(r:RS)(v:jP):Ending->jJ->Prop:=λe w'=>e=nG v/\pE b w w'/\vW w' b r
theorem zy(t:ByteArray)(w:jJ):
  jV jI 144 #[nz t] w λe w'=>e=nG (nA (U (Z w.heap.size 0 V)))/\jS w.heap.size w w'/\w.heap.size<w'.heap.size/\vW w' w.heap.size (RS.of t):=by
 go_in;go_wp2;go_returns;exact⟨rfl,(jT _ _).alloc (jK _) _,nS,nP.new _ _ _⟩
theorem Tv(b:Nat)(r:RS)(w:jJ)(hb:vW w b r):
  jV jI 212 #[nA (U (Z b 0 V))] w λe w'=>e=nG (nk nI r.p)/\w=w':=by
 obtain⟨t,p,f⟩:=r;have c:=nP.cell hb 1;simp[RS.cs]at c;go_in;go_wp2;go_returns;exact⟨rfl,rfl⟩
theorem qd(b:Nat)(r:RS)(w:jJ)(hb:vW w b r):
  jV jI 146 #[nA (U (Z b 0 V))] w λe w'=>e=nG (nk nI r.f)/\w=w':=by
 obtain⟨t,p,f⟩:=r;have c:=nP.cell hb 2;simp[RS.cs]at c;go_in;go_wp2;go_returns;exact⟨rfl,rfl⟩
theorem Es(b:Nat)(r:RS)(w:jJ)(A:r.Ok)(hb:vW w b r):
  jV jI 189 #[nA (U (Z b 0 V))] w λe w'=>e=nG (nk nI ((r.t.size:Int) - r.p))/\∃k,w'=w.drewN k:=by
 obtain⟨t,p,f⟩:=r;obtain⟨h1,h2⟩:=A;simp only at h1 h2;have c0:=nP.cell hb 0;have c1:=nP.cell hb 1;simp[RS.cs]at c0 c1;go_in;go_wp2;go_quiet (fail);go_wp2;go_returns;exact⟨rfl,_,rfl⟩
theorem Bz{p:Prop}(h:p:=by
 rw[hw3]at HH hu3;have q0:=r2.cell 0;rw[hw3]at q0;clear r2 hb3;go_in;go_wp2_with fail;refine HH.mono ?_;rintro e w4 ⟨rfl,hu4,hb4,hq4⟩;have q4:=hq4.cell 0;simp at q4;go_wp2_with fail;go_returns;exact⟨rfl,hu4.upd hu3 nL,hb4⟩):p:=h
theorem JZ{p:Prop}(h:p:=by
 go_in;go_wp2_with fail;refine(HH _).mono ?_;rintro e w4 ⟨rfl,rfl⟩;go_wp2_with fail;go_returns;exact⟨rfl,hu3,hb3⟩):p:=h
theorem VT{p:Prop}(h:p:=by
 rw[hw3];have:=nP.new ((w.alloc (nH #[nA (U (Z b 0 V))] 193)).alloc (nH #[nk nI n] 3)) #[nz uw] 9;rw[World.size_alloc,World.size_alloc]at this;exact this):p:=h
theorem qj(b:Nat)(r:RS)(n:Int)(w:jJ)(J:r.Ok)(hb:vW w b r):
  jV jI 145 #[nA (U (Z b 0 V)),nk nI n] w (zx b w (r.take n).1 (nz (r.take n).2)):=by
 obtain⟨t,p,f⟩:=r;obtain⟨h1,h2⟩:=J;simp only at h1 h2;have hlt:=nP.lt hb;have N:∀(fn:Fn)(first cap:Array jP)(w:jJ),(mJ fn first cap).run jI w=.ok (.func fn first cap) w:=λ_ _ _ _=>rfl
 obtain⟨w3,hw3⟩:∃w3,w3=(((w.alloc (nH #[nA (U (Z b 0 V))] 193)).alloc (nH #[nk nI n] 3)).alloc (nH #[nz uw] 9)):=⟨_,rfl⟩;have hb3:vW w3 b ⟨t,p,f⟩:=by rw[hw3];exact((nP.alloc hb _).alloc _).alloc _
 have hu3:pE b w w3:=by rw[hw3];exact(((pE.refl b w).alloc _).alloc _).alloc _
 have r0:w3.cell? (Z w.heap.size 0 V)=U (nA (U (Z b 0 V))):=by rw[hw3];simp[go_sem]
 have r1:w3.cell? (Z (w.heap.size+1) 0 V)=U (nk nI n):=by rw[hw3];simp[go_sem]
 have r2:nP w3 (w.heap.size+2) #[nz uw] 9:=by
  exact VT
 by_cases C:f=0
 .subst C
  by_cases hn:n<0
  .have e:RS.take ⟨t,p,0⟩ n=(⟨t,p,1⟩,uw):=by unfold RS.take;rw[if_pos rfl,if_pos hn]
   rw[e];clear e
   have H:=Bw b (w.heap.size+2) t p p 1 #[nA (U (Z (w.heap.size+1) 0 V)),nA (U (Z w.heap.size 0 V)),nA (U (Z (w.heap.size+2) 0 V))] (λw'=>nP w' (w.heap.size+2) #[nz (uw)] 9) w3 hb3
    (λw' i v h=>h.setOther nT v) ((VR b _ _ _ n w3 hn r1).mono λe w' ⟨he,A⟩=>⟨he,A▸oN.refl _ _ _,A▸hb3,A▸r2⟩)
   have HH:=jH H;clear H r0 r1;exact Bz
  by_cases E:(t.size:Int) - p<n
  .have e:RS.take ⟨t,p,0⟩ n=(⟨t,p,2⟩,uw):=by unfold RS.take;rw[if_pos rfl,if_neg hn,if_pos E]
   rw[e];clear e
   have H:=Bw b (w.heap.size+2) t p p 2 #[nA (U (Z (w.heap.size+1) 0 V)),nA (U (Z w.heap.size 0 V)),nA (U (Z (w.heap.size+2) 0 V))] (λw'=>nP w' (w.heap.size+2) #[nz (uw)] 9) w3 hb3
    (λw' i v h=>h.setOther nT v) ((Tq b _ _ _ t p 0 n w3 h1 h2 nL E hb3 r1 r0).mono λe w' ⟨he,k,A⟩=>⟨he,A▸(oN.refl _ _ _).drewN k,A▸hb3,A▸r2⟩)
   have HH:=jH H;clear H r0 r1;exact Bz
  obtain⟨m,rfl⟩:∃m:Nat,n=m:=⟨n.toNat,nL⟩;have e:RS.take ⟨t,p,0⟩ m=(⟨t,p+m,0⟩,t.extract p (p+m)):=by unfold RS.take;rw[if_pos rfl,if_neg hn,if_neg E];rfl
  rw[e];clear e
  have H:=Bw b (w.heap.size+2) t p (p+m) 0 #[nA (U (Z (w.heap.size+1) 0 V)),nA (U (Z w.heap.size 0 V)),nA (U (Z (w.heap.size+2) 0 V))] (λw'=>nP w' (w.heap.size+2) #[nz (t.extract p (p+m))] 9) w3 hb3
   (λw' i v h=>h.setOther nT v) (a0j b _ _ _ t p m 0 w3 h2 nL nL nL nL hb3 r2 r1 r0)
  have HH:=jH H;clear H r0 r1;exact Bz
 .have e:RS.take ⟨t,p,f⟩ n=(⟨t,p,f⟩,uw):=by unfold RS.take;rw[if_neg C]
  rw[e];have I:((f:Int)==0)=false:=by rw[beq_eq_false_iff_ne];exact C
  clear e;have HH:=jH (λv=>Ck b ⟨t,p,f⟩ v w3 I hb3);rw[hw3]at HH hu3 hb3;have q0:=r2.cell 0;rw[hw3]at q0;clear r2 r0 r1 C;exact JZ
theorem J2(b:Nat)(r:RS)(n:Int)(w:jJ)(J:r.Ok)(hb:vW w b r):
  jV jI 247 #[nA (U (Z b 0 V)),nk nI n] w (zx b w r (nz (r.ahead n))):=by
 obtain⟨t,p,f⟩:=r;obtain⟨h1,h2⟩:=J;simp only at h1 h2;have hlt:=nP.lt hb;have N:∀(fn:Fn)(first cap:Array jP)(w:jJ),(mJ fn first cap).run jI w=.ok (.func fn first cap) w:=λ_ _ _ _=>rfl
 obtain⟨w3,hw3⟩:∃w3,w3=(((w.alloc (nH #[nA (U (Z b 0 V))] 193)).alloc (nH #[nk nI n] 3)).alloc (nH #[nz uw] 9)):=⟨_,rfl⟩;have hb3:vW w3 b ⟨t,p,f⟩:=by rw[hw3];exact((nP.alloc hb _).alloc _).alloc _
 have hu3:pE b w w3:=by rw[hw3];exact(((pE.refl b w).alloc _).alloc _).alloc _
 have r0:w3.cell? (Z w.heap.size 0 V)=U (nA (U (Z b 0 V))):=by rw[hw3];simp[go_sem]
 have r1:w3.cell? (Z (w.heap.size+1) 0 V)=U (nk nI n):=by rw[hw3];simp[go_sem]
 have r2:nP w3 (w.heap.size+2) #[nz uw] 9:=by
  exact VT
 by_cases A:f=0
 .subst A
  by_cases hn:0<n
  .have e:RS.ahead ⟨t,p,0⟩ n=t.extract p (p+min n.toNat (t.size - p)):=by unfold RS.ahead;rw[if_pos rfl,if_pos hn]
   rw[e];clear e;obtain⟨m,C⟩:∃m,m=min n.toNat (t.size - p):=⟨_,rfl⟩;rw[<-C]
   have H:=Er b (w.heap.size+2) t p p 0 #[nA (U (Z (w.heap.size+1) 0 V)),nA (U (Z w.heap.size 0 V)),nA (U (Z (w.heap.size+2) 0 V))] (λw'=>nP w' (w.heap.size+2) #[nz (t.extract p (p+m))] 9) w3 hb3
    (λw' i v h=>h.setOther nT v) (VS b _ _ _ t p m 0 n w3 h2 h1 hn C nL hb3 r2 r1 r0)
   have HH:=jH H;clear H r0 r1 C;exact Bz
  have e:RS.ahead ⟨t,p,0⟩ n=uw:=by unfold RS.ahead;rw[if_pos rfl,if_neg hn]
  rw[e];clear e
  have H:=Er b (w.heap.size+2) t p p 0 #[nA (U (Z (w.heap.size+1) 0 V)),nA (U (Z w.heap.size 0 V)),nA (U (Z (w.heap.size+2) 0 V))] (λw'=>nP w' (w.heap.size+2) #[nz (uw)] 9) w3 hb3
   (λw' i v h=>h.setOther nT v) ((OL b _ _ _ n w3 hn r1).mono λe w' ⟨he,E⟩=>⟨he,E▸oN.refl _ _ _,E▸hb3,E▸r2⟩)
  have HH:=jH H;clear H r0 r1;exact Bz
 .have e:RS.ahead ⟨t,p,f⟩ n=uw:=by unfold RS.ahead;rw[if_neg A]
  rw[e];have I:((f:Int)==0)=false:=by rw[beq_eq_false_iff_ne];exact A
  clear e;have HH:=jH (λv=>Ck b ⟨t,p,f⟩ v w3 I hb3);rw[hw3]at HH hu3 hb3;have q0:=r2.cell 0;rw[hw3]at q0;clear r2 r0 r1 A;exact JZ
theorem LV(b:Nat)(r:RS)(w:jJ)(I:r.Ok)(hb:vW w b r):
  jV jI 224 #[nA (U (Z b 0 V))] w (zx b w r.byte.1 (nk .u8 r.byte.2)):=by
 obtain⟨t,p,f⟩:=r;obtain⟨h1,h2⟩:=I;simp only at h1 h2;have hlt:=nP.lt hb;have J:∀(fn:Fn)(first cap:Array jP)(w:jJ),(mJ fn first cap).run jI w=.ok (.func fn first cap) w:=λ_ _ _ _=>rfl
 obtain⟨w3,hw3⟩:∃w3,w3=((w.alloc (nH #[nA (U (Z b 0 V))] 193)).alloc (nH #[nk .u8 0] 5)):=⟨_,rfl⟩;have hb3:vW w3 b ⟨t,p,f⟩:=by rw[hw3];exact(nP.alloc hb _).alloc _
 have hu3:pE b w w3:=by rw[hw3];exact((pE.refl b w).alloc _).alloc _
 have r0:w3.cell? (Z w.heap.size 0 V)=U (nA (U (Z b 0 V))):=by rw[hw3];simp[go_sem]
 have r2:nP w3 (w.heap.size+1) #[nk .u8 0] 5:=by
  rw[hw3];have:=nP.new (w.alloc (nH #[nA (U (Z b 0 V))] 193)) #[nk .u8 0] 5;rw[World.size_alloc]at this;exact this
 by_cases A:f=0
 .subst A
  by_cases hp:p<t.size
  .have e:RS.byte ⟨t,p,0⟩=(⟨t,p+1,0⟩,(t[p].toNat:Int)):=by unfold RS.byte;rw[if_pos rfl,dif_pos hp]
   rw[e];clear e
   have H:=FP b (w.heap.size+1) t p (p+1) 0 #[nA (U (Z w.heap.size 0 V)),nA (U (Z (w.heap.size+1) 0 V))] (λw'=>nP w' (w.heap.size+1) #[nk .u8 (t[p].toNat:Int)] 5) w3 hb3
    (λw' i v h=>h.setOther nT v) (a0k b _ _ t p 0 w3 h2 hp nL nL hb3 r2 r0)
   have HH:=jH H;clear H r0;exact Bz
  .have e:RS.byte ⟨t,p,0⟩=(⟨t,p,2⟩,0):=by unfold RS.byte;rw[if_pos rfl,dif_neg hp]
   rw[e];clear e
   have H:=FP b (w.heap.size+1) t p p 2 #[nA (U (Z w.heap.size 0 V)),nA (U (Z (w.heap.size+1) 0 V))] (λw'=>nP w' (w.heap.size+1) #[nk .u8 0] 5) w3 hb3
    (λw' i v h=>h.setOther nT v) ((Tt b _ _ t p 0 w3 h2 h1 nL hb3 r0).mono λe w' ⟨he,k,C⟩=>⟨he,C▸(oN.refl _ _ _).drewN k,C▸hb3,C▸r2⟩)
   have HH:=jH H;clear H r0;exact Bz
 .have e:RS.byte ⟨t,p,f⟩=(⟨t,p,f⟩,0):=by unfold RS.byte;rw[if_neg A]
  rw[e];have E:((f:Int)==0)=false:=by rw[beq_eq_false_iff_ne];exact A
  clear e;have HH:=jH (λv=>Ck b ⟨t,p,f⟩ v w3 E hb3);rw[hw3]at HH hu3 hb3;clear r2 r0 A;exact JZ
theorem tZ(b:Nat)(r:RS)(x:Int)(w:jJ)(hb:vW w b r):
  jV jI 191 #[nA (U (Z b 0 V)),nk nI x] w (zx b w (r.fail x) (nE #[])):=by
 obtain⟨t,p,f⟩:=r;have hlt:=nP.lt hb;have N:∀(fn:Fn)(first cap:Array jP)(w:jJ),(mJ fn first cap).run jI w=.ok (.func fn first cap) w:=λ_ _ _ _=>rfl
 have hb3:vW (w.alloc (nH #[nk nI x] 36)) b ⟨t,p,f⟩:=nP.alloc hb _;have hu3:pE b w (w.alloc (nH #[nk nI x] 36)):=(pE.refl b w).alloc _;have r0:(w.alloc (nH #[nk nI x] 36)).cell? (Z w.heap.size 0 V)=U (nk nI x):=by simp[go_sem]
 by_cases A:f=0
 .subst A
  have e:RS.fail ⟨t,p,0⟩ x=⟨t,p,x⟩:=if_pos rfl;rw[e]
  have H:=OM b 0 t p p x #[nA (U (Z w.heap.size 0 V))] (λ_=>True) _ hb3 (λ_ _ _ _=>trivial)
   ((Tu w.heap.size x _ r0).mono λe w' ⟨he,C⟩=>⟨he,C▸pE.refl _ _,C▸hb3,trivial⟩)
  have HH:=jH H;clear H r0 e hb3;go_in;go_wp2_with fail;refine HH.mono ?_;rintro e w4 ⟨rfl,E,I,_⟩;go_wp2_with fail;go_returns;exact⟨rfl,hu3.trans E,I⟩
 .have e:RS.fail ⟨t,p,f⟩ x=⟨t,p,f⟩:=if_neg A
  rw[e];have J:((f:Int)==0)=false:=by rw[beq_eq_false_iff_ne];exact A
  have HH:=jH (λv=>Ck b ⟨t,p,f⟩ v _ J hb3);clear e r0 A;exact JZ
end
section
def oD:List UInt8->Nat->Nat->Nat×Nat×Nat
 |[],_,_=>(0,0,2)
 |b::r,i,n=>
  if i=9/\1<b.toNat\/0<i/\b.toNat=0 then(0,0,3)
  else if b.toNat<128 then(n+b.toNat % 128*128^i,i+1,0)
  else oD r (i+1) (n+b.toNat % 128*128^i)
def VU(t:Nat×Nat×Nat):jP:=nE #[nk nJ t.1,nk nI t.2.1,nk nI t.2.2]
theorem a0l{a b c:Int}{x y z:Nat}(h1:a=x)(h2:b=y)(A:c=z):
  lJ (nE #[nk nJ a,nk nI b,nk nI c])=nG (VU (x,y,z)):=by rw[h1,h2,A];rfl
theorem drop_at(s:ByteArray)(k:Nat)(h:k<s.size):s.data.toList.drop k=s[k]::s.data.toList.drop (k+1):=by
 have A:k<s.data.toList.length:=by simpa using h
 rw[List.drop_eq_getElem_cons A];rfl
def xX(s:ByteArray)(t:Nat×Nat×Nat)(k n:Nat):Prop:=n<128^k/\oD (s.data.toList.drop k) k n=t
theorem xX.start(s:ByteArray):xX s (oD s.data.toList 0 0) 0 0:=⟨nS,nS⟩
theorem xX.short{t:Nat×Nat×Nat}{k n:Nat}(h:xX s t k n)(hk:s.size<=k):t=(0,0,2):=by
 rw[<-h.2,List.drop_of_length_le (by simpa using hk)];rfl
theorem xX.form{t:Nat×Nat×Nat}{k n:Nat}(h:xX s t k n)(hk:k<s.size)(c:k=9/\1<s[k].toNat\/0<k/\s[k].toNat=0):t=(0,0,3):=by
 rw[<-h.2,drop_at s k hk,oD,if_pos c]
theorem xX.done{t:Nat×Nat×Nat}{k n:Nat}(h:xX s t k n)(hk:k<s.size)(c:¬(k=9/\1<s[k].toNat\/0<k/\s[k].toNat=0))(c2:s[k].toNat<128):t=(n+s[k].toNat % 128*128^k,k+1,0):=by
 rw[<-h.2,drop_at s k hk,oD,if_neg c,if_pos c2]
theorem xX.step{t:Nat×Nat×Nat}{k n:Nat}(h:xX s t k n)(hk:k<s.size)(c:¬(k=9/\1<s[k].toNat\/0<k/\s[k].toNat=0))(c2:128<=s[k].toNat):xX s t (k+1) (n+s[k].toNat % 128*128^k):=by
 refine⟨?_,?_⟩
 .have h1:=h.1
  have:s[k].toNat % 128<=127:=nL;have h2:=Nat.mul_le_mul_right (128^k) this;rw[Nat.pow_succ];omega
 .rw[<-h.2,drop_at s k hk,oD,if_neg c,if_neg nL]
theorem VV(k:Nat)(h:k<=9):128^k<=9223372036854775808:=
 jY (lg nO h) nO
theorem a0m(k:Nat)(h:k<=8):128^k<=72057594037927936:=
 jY (lg nO h) nO
theorem a2W(k b:Nat)(hk:k<=9)(A:k=9->b % 128<=1):b % 128*128^k+128^k<=18446744073709551616:=by
 have hp:=VV k hk;by_cases h:k=9
 .have:=Nat.mul_le_mul_right (128^k) (A h)
  omega
 .have C:=a0m k nL
  have E:b % 128<=127:=nL;have:=Nat.mul_le_mul E C;omega
theorem a2X(k n b:Nat)(hk:k<=9)(hn:n<128^k)(hb:b<256)(C:k=9->b % 128<=1):
  bits BinOp.or IntKind.u64 (n:Int) (IntKind.u64.wrap (IntKind.u64.wrap (bits BinOp.and IntKind.u8 (b:Int) 127)*2^(7*k)))=
   ((n+b % 128*128^k:Nat):Int):=by
 have hp:=VV k hk;have e1:bits BinOp.and IntKind.u8 (b:Int) 127=((b % 128:Nat):Int):=by
  rw[show(127:Int)=((127:Nat):Int)from rfl,u8_and_nat b 127 hb nO];congr 1;exact Nat.and_two_pow_sub_one_eq_mod b 7
 have e2:(2:Int)^(7*k)=((128^k:Nat):Int):=by
  rw[Int.pow_mul];simp
 have lt:b % 128*128^k+128^k<=18446744073709551616:=by
  by_cases h:k=9
  .have:=Nat.mul_le_mul_right (128^k) (C h)
   omega
  .have E:128^k<=72057594037927936:=jY (lg nO (show k<=8 by omega)) nO
   have I:b % 128<=127:=nL;have:=Nat.mul_le_mul I E;omega
 have hd:0<=b % 128*128^k:=kH _
 rw[e1,e2,IntWalk.u64_in ((b % 128:Nat):Int) ⟨nL,nL⟩,<-Int.natCast_mul,IntWalk.u64_in _ ⟨nL,nL⟩,
  u64_or_nat n (b % 128*128^k) nL nL]
 congr 1;have A:n<2^(7*k):=by rw[Nat.pow_mul];exact hn
 have:=mO A (b % 128);rw[Nat.pow_mul]at this;rw[Nat.or_comm,Nat.mul_comm,show(128:Nat)=2^7 from rfl,<-this,Nat.add_comm]
def oI(n:Nat):List UInt8:=if h:n<128 then [kg n]else kg (n % 128+128)::oI (n/128)
termination_by n
decreasing_by omega
theorem qP(n:Nat)(h:n<128):oI n=[kg n]:=by rw[oI,dif_pos h]
theorem wy(n:Nat)(h:128<=n):oI n=kg (n % 128+128)::oI (n/128):=by rw[oI,dif_neg nL]
theorem uf:∀ k n:Nat,n<128^k->(oI n).length<=max 1 k
 |0,n,h=>by rw[qP n (by simp at h;omega)];simp
 |k+1,n,h=>by
  by_cases c:n<128;.rw[qP n c];simp
  .rw[wy n nL]
   have:=uf k (n/128) (by rw[Nat.pow_succ]at h;omega);simp only[kF];have:k≠0:=by rintro rfl;simp at h;omega
   omega
def zz(t l:List UInt8)(m:Nat):Prop:=l++oI m=t/\t.length<=10
theorem zz.start(n:Nat)(h:n<18446744073709551616):zz (oI n) [] n:=by
 refine⟨rfl,?_⟩;have:=uf 10 n (kG h nO);omega
theorem zz.le{t l:List UInt8}{m:Nat}(h:zz t l m):l.length+1<=10:=by
 have h1:=congrArg List.length h.1;have h2:=h.2;simp only[j5]at h1;have:1<=(oI m).length:=by
  by_cases c:m<128;.rw[qP m c];simp
  .rw[wy m nL];simp
 omega
theorem zz.step{t l:List UInt8}{m:Nat}(h:zz t l m)(c:128<=m):zz t (l++[kg (m % 128+128)]) (m/128):=by
 refine⟨?_,h.2⟩;rw[mG,<-h.1,wy m c];rfl
theorem zz.done{t l:List UInt8}{m:Nat}(h:zz t l m)(c:m<128):l++[kg m]=t:=by
 rw[<-h.1,qP m c]
theorem a5D(m:Nat):bits BinOp.or IntKind.u8 ((m:Int) % 256) 128=((m % 128+128:Nat):Int):=by
 rw[show(m:Int) % 256=((m % 256:Nat):Int)from by omega,show(128:Int)=((128:Nat):Int)from rfl,u8_or_nat (m % 256) 128 nL nO];congr 1;have key:∀a:Nat,a<256->a|||128=a % 128+128:=yZ
 rw[key _ nL];omega
theorem OO(n:Nat):1<=(oI n).length:=by
 by_cases c:n<128;.rw[qP n c];simp
 .rw[wy n nL];simp
theorem a2x{b:UInt8}{n:Nat}(h:n=b.toNat):kg n=b:=by subst h;simp
theorem LW:∀(r:List UInt8)(i A N K:Nat),i<=9->A<128^i->oD r i A=(N,K,0)->
  ∃m,N=A+m*128^i/\N<18446744073709551616/\K=i+(oI m).length/\(0<i->0<m)/\oI m<+:r
 |[],i,A,N,K,hi,E,h=>by simp[oD]at h
 |b::r,i,A,N,K,hi,E,h=>by
  rw[oD]at h;by_cases c:i=9/\1<b.toNat\/0<i/\b.toNat=0;.rw[if_pos c]at h;simp at h
  .rw[if_neg c]at h
   have hb:=b.toNat_lt;by_cases c2:b.toNat<128
   .rw[if_pos c2]at h
    simp only[Prod.mk.injEq]at h;have hlt:=a2W i b.toNat hi nL;have e:b.toNat % 128=b.toNat:=nL;rw[e]at h hlt;refine⟨b.toNat,h.1.symm,nL,?_,nL,?_⟩;.rw[qP _ c2];exact h.2.1.symm
    .rw[qP _ c2,a2x rfl];exact⟨r,rfl⟩
   .rw[if_neg c2]at h
    have hi9:i<=8:=nL;have C:A+b.toNat % 128*128^i<128^(i+1):=by
     have:b.toNat % 128<=127:=nL;have h2:=Nat.mul_le_mul_right (128^i) this;rw[Nat.pow_succ];omega
    obtain⟨m,h1,h2,I,J,O⟩:=LW r (i+1) _ N K nL C h;have Q:=J nL;have e1:(b.toNat % 128+128*m) % 128+128=b.toNat:=nL;have e2:(b.toNat % 128+128*m)/128=m:=nL;have e3:oI (b.toNat % 128+128*m)=b::oI m:=by
     rw[wy _ nL,e1,e2,a2x rfl]
    refine⟨b.toNat % 128+128*m,?_,h2,?_,nL,?_⟩
    .rw[h1,Nat.pow_succ,lU]
     have:m*(128^i*128)=128*m*128^i:=by rw[Nat.mul_comm (128^i) 128,<-Nat.mul_assoc,Nat.mul_comm m 128]
     omega
    .rw[e3,I];simp only[kF];omega
    .rw[e3];exact List.cons_prefix_cons.2 ⟨rfl,O⟩
theorem tN{l:List UInt8}{N K:Nat}(h:oD l 0 0=(N,K,0)):K<=l.length/\N<18446744073709551616/\oI N=l.take K/\K<=10:=by
 obtain⟨m,h1,h2,A,_,C⟩:=LW l 0 0 N K nL nS h;simp at h1 A;subst h1;refine⟨by rw[A];exact C.length_le,h2,?_,?_⟩;.rw[A];exact(List.prefix_iff_eq_take.1 C)
 .have:=uf 10 N (kG h2 nO)
  omega
def pI(most:Int)(l:List UInt8):Nat×Nat×Nat:=
 if(oD l 0 0).2.2=0 then if most<0\/most<((oD l 0 0).1:Int)then(0,0,5)else oD l 0 0 else(0,0,(oD l 0 0).2.2)
structure PF where
 id:Nat
 body:ByteArray
 n:Nat
 e:Nat
def PF.bad(e:Nat):PF:=⟨0,⟨#[]⟩,0,e⟩
def pq(most:Int)(s:ByteArray):PF:=
 if(pI most s.data.toList).2.2=0 then
  if s.size<(pI most s.data.toList).2.1+(pI most s.data.toList).1 then .bad 2
  else
   (λi:ByteArray=>if(oD i.data.toList 0 0).2.2=0 then⟨(oD i.data.toList 0 0).1,i.extract (oD i.data.toList 0 0).2.1 i.size,(pI most s.data.toList).2.1+(pI most s.data.toList).1,0⟩else .bad 3)
    (s.extract (pI most s.data.toList).2.1 ((pI most s.data.toList).2.1+(pI most s.data.toList).1))
 else .bad (pI most s.data.toList).2.2
def J3(id:Nat)(b:ByteArray):ByteArray:=⟨(oI ((oI id).length+b.size)).toArray⟩++⟨(oI id).toArray⟩++b
theorem zA{l:List UInt8}{n k:Nat}(h:pI most l=(n,k,0)):oD l 0 0=(n,k,0)/\(n:Int)<=most/\k<=l.length/\k<=10:=by
 unfold pI at h;split at h
 .rename_i h0
  split at h;.simp at h
  .rename_i h1
   have hk:=tN h;rw[h]at h1;simp only at h1;exact⟨h,nL,hk.1,hk.2.2.2⟩
 .rename_i h0
  simp only[Prod.mk.injEq]at h;exact absurd h.2.2 h0
theorem Tw{l:List UInt8}(h:(pI most l).2.2≠0):pI most l=(0,0,(pI most l).2.2):=by
 unfold pI at*;split
 .rename_i h0
  rw[if_pos h0]at h;split;.rfl
  .rename_i h1
   rw[if_neg h1]at h;exact absurd h0 h
 .rfl
theorem LX(h:(pI most s.data.toList).2.2≠0):pq most s=.bad (pI most s.data.toList).2.2:=by unfold pq;rw[if_neg h]
theorem OP{n k:Nat}(h:pI most s.data.toList=(n,k,0))(h2:s.size<k+n):pq most s=.bad 2:=by
 unfold pq;rw[h,if_pos rfl,if_pos h2]
theorem OQ{n k:Nat}(h:pI most s.data.toList=(n,k,0))(h2:k+n<=s.size)(A:(oD (s.extract k (k+n)).data.toList 0 0).2.2≠0):pq most s=.bad 3:=by
 unfold pq;rw[h,if_pos rfl,if_neg (show¬s.size<k+n by omega)];show(if _ then _ else _)=_;rw[if_neg A]
theorem VW{n k id z:Nat}(h:pI most s.data.toList=(n,k,0))(h2:k+n<=s.size)(A:oD (s.extract k (k+n)).data.toList 0 0=(id,z,0)):
  pq most s=⟨id,(s.extract k (k+n)).extract z n,k+n,0⟩:=by
 unfold pq;rw[h,if_pos rfl,if_neg (show¬s.size<k+n by omega)];show(if _ then _ else _)=_;rw[A,if_pos rfl,kC,show min (k+n) s.size - k=n by omega]
theorem Tx(id:Nat)(b:ByteArray):(J3 id b).size=(oI ((oI id).length+b.size)).length+((oI id).length+b.size):=by
 unfold J3;rw[ByteArray.size_append,ByteArray.size_append,size_mk (oI ((oI id).length+b.size)),size_mk (oI id)];omega
end
section
open Go.RowKit
theorem J4{p:Prop}(h:p:=by
 clear c d1;go_wp2;go_returns;exact⟨by rw[ht.out];exact a0l hor rfl rfl,rfl⟩):p:=h
theorem Rh{p:Prop}(h:p:=by
 clear c c2;go_wp2;go_round;case rel=>exact⟨k+1,_,nL,nL,by go_num,by rw[hor.out],hs'⟩
 case measure=>simp[kT];omega):p:=h
theorem Ri{p:Prop}(h:p:=by
 have c3:((s[k].toNat:Int)==0)=true:=Tp;have c4:0<k:=nL;clear c d;go_wp2;go_returns;exact⟨by rw[ht.out];rfl,rfl⟩):p:=h
theorem Cm(s:ByteArray)(w:jJ)(hs:s.size<=j3):
  jV jI 126 #[nz s] w λe w'=>e=nG (VU (oD s.data.toList 0 0))/\w=w':=by
 unfold j3 at hs;have N:=xX.start s;generalize oD s.data.toList 0 0=t at*;go_in
 obtain⟨m,O,Q,hm2,C⟩:∃m:Nat,(if(10:Int)<(s.size:Int)then 10 else(s.size:Int))=(m:Int)/\m<=s.size/\m<=10/\(s.size<=m\/10<=m):=
  ⟨min s.size 10,by split<;>omega,nL,nL,nL⟩
 have E:=jH C;clear C;go_wp2
 .clear O
  go_loop [5,11] (λI i=>∃k n:Nat,k<=s.size/\k<=9/\i=nk nI k/\I=nk nJ n/\xX s t k n) (λ_ i=>10 -(kT i).toNat);case atStart=>exact⟨0,0,nL,nL,rfl,rfl,N⟩
  case round=>
   obtain⟨k,n,hk,J,rfl,rfl,A⟩:=hrel;by_cases Y:k<m
   .have hlt:k<s.size:=nL
    have hb:s[k].toNat<=255:=by have:=s[k].toNat_lt;omega
    by_cases c:k=9/\1<s[k].toNat\/0<k/\s[k].toNat=0
    .have ht:=jH (A.form hlt c)
     by_cases d:k=9
     .have c1:((k:Int)==9)=true:=Tp
      by_cases c2:1<s[k].toNat
      .clear c d
       go_wp2;go_returns;exact⟨by rw[ht.out];rfl,rfl⟩
      .exact Ri
     .have c1:((k:Int)==9)=false:=wG
      exact Ri
    .have hor:=jH (a2X k n s[k].toNat J A.1 nL nL)
     by_cases c2:s[k].toNat<128
     .have ht:=jH (A.done hlt c c2)
      by_cases d1:k=9
      .have c1:((k:Int)==9)=true:=Tp
       have c5:s[k].toNat<=1:=nL;have c3:((s[k].toNat:Int)==0)=false:=wG;have c4:0<k:=nL;exact J4
      .have c1:((k:Int)==9)=false:=wG
       by_cases d2:0<k
       .have c3:((s[k].toNat:Int)==0)=false:=wG
        exact J4
       .exact J4
     .have c4:128<=s[k].toNat:=nL
      have hs':=A.step hlt c c4;have c1:((k:Int)==9)=false:=wG;have aa:k<=8:=nL;by_cases d2:0<k
      .have c3:((s[k].toNat:Int)==0)=false:=wG
       exact Rh
      .exact Rh
   .go_wp2
    go_returns;exact⟨by rw[A.short (by have:=E.out;omega)];rfl,rfl⟩
end
section
def vX:Nat->Nat->List UInt8
 |0,_=>[]
 |k+1,n=>kg (n % 256)::vX k (n/256)
def qm:List UInt8->Nat
 |[]=>0
 |b::r=>b.toNat+256*qm r
def BB(n:Nat):List UInt8:=if h:n=0 then []else kg (n % 256)::BB (n/256)
termination_by n
decreasing_by omega
theorem uy:BB 0=[]:=by rw[BB,dif_pos rfl]
theorem yE(n:Nat)(h:0<n):BB n=kg (n % 256)::BB (n/256):=by rw[BB,dif_neg nL]
@[simp] theorem qG:∀ k n:Nat,(vX k n).length=k
 |0,_=>rfl
 |k+1,n=>by simp[vX,qG k]
theorem u8n(n:Nat)(h:n<256):(kg n).toNat=n:=by
 show n % 256=n;exact Nat.mod_eq_of_lt h
theorem LY:∀ k n:Nat,vX (k+1) n=vX k n++[kg (n/256^k % 256)]
 |0,n=>by simp[vX]
 |k+1,n=>by
  rw[vX,LY k (n/256),vX,Nat.div_div_eq_div_mul,Nat.pow_succ,Nat.mul_comm 256];rfl
theorem uz:∀ l:List UInt8,qm l<256^l.length
 |[]=>by simp[qm]
 |b::r=>by
  have:=uz r;have hb:=b.toNat_lt;rw[qm,kF,Nat.pow_succ];omega
theorem u8e{b:UInt8}{n:Nat}(h:n=b.toNat):kg n=b:=by subst h;simp
theorem LZ:∀ l:List UInt8,vX l.length (qm l)=l
 |[]=>rfl
 |b::r=>by
  have hb:=b.toNat_lt;rw[qm,kF,vX,u8e (b:=b) nL,show(b.toNat+256*qm r)/256=qm r by omega,LZ r]
theorem zB:∀ l m:List UInt8,qm (l++m)=qm l+256^l.length*qm m
 |[],m=>by simp[qm]
 |b::r,m=>by
  rw[List.cons_append,qm,qm,zB r m,kF,Nat.pow_succ,Nat.mul_comm (256^r.length) 256,Nat.mul_assoc];omega
theorem DC:∀ k n:Nat,n<256^k->(BB n).length<=k
 |0,n,h=>by simp at h;subst h;simp[uy]
 |k+1,n,h=>by
  by_cases c:n=0;.subst c;simp[uy]
  .rw[yE n nL,kF]
   have:=DC k (n/256) (by rw[Nat.pow_succ]at h;omega);omega
theorem J5:∀ k n:Nat,n<256^k->vX k n=BB n++lh (k -(BB n).length) 0
 |0,n,h=>by simp at h;subst h;simp[uy,vX]
 |k+1,n,h=>by
  by_cases c:n=0
  .subst c
   have:=J5 k 0 (Nat.pow_pos nO);simp only[uy,List.nil_append,List.length_nil,Nat.sub_zero]at this⊢;rw[vX,this];rfl
  .rw[yE n nL,vX,J5 k (n/256) (by rw[Nat.pow_succ]at h;omega),kF,List.cons_append,Nat.add_sub_add_right]
theorem VX(n:Nat):qm (BB n)=n:=by
 induction n using Nat.strongRecOn with
 |_ n A=>
  by_cases c:n=0;.subst c;simp[uy,qm]
  .rw[yE n nL,qm,A (n/256) nL,u8n _ nL];omega
theorem a0n(k n:Nat):(BB n).length<=k<->n<256^k:=by
 refine⟨λh=> ?_,DC k n⟩;have:=uz (BB n);rw[VX]at this;exact kG this (lg nO h)
theorem a2Y(n:Nat):BB n=vX (BB n).length n:=by
 have:=J5 (BB n).length n ((a0n _ _).1 (jK _));simpa using this.symm
theorem L6:∀(l:List UInt8)(b:UInt8),b.toNat≠0->BB (qm (l++[b]))=l++[b]
 |[],b,h=>by
  have hb:=b.toNat_lt;simp only[List.nil_append,qm,Nat.mul_zero,Nat.add_zero];rw[yE _ nL,show b.toNat/256=0 by omega,uy,u8e (b:=b) nL]
 |a::r,b,h=>by
  have A:=L6 r b h;have C:=a.toNat_lt;have h0:0<qm (r++[b]):=by
   rw[zB,qm,qm];have:=Nat.pow_pos (n:=r.length) (show 0<256 by decide);have:=Nat.mul_pos this (show 0<b.toNat+256*0 by omega);omega
  rw[List.cons_append,qm,yE _ nL,show(a.toNat+256*qm (r++[b]))/256=qm (r++[b])by omega,A,u8e (b:=a) nL]
def uO(l:List UInt8):Nat:=qm l.reverse
theorem Ty(l:List UInt8)(b:UInt8):uO (l++[b])=256*uO l+b.toNat:=by
 unfold uO;rw[List.reverse_append];simp[qm];omega
theorem J6(l:List UInt8):uO l<256^l.length:=by
 have:=uz l.reverse;rwa [List.length_reverse]at this
theorem Tz(l:List UInt8)(b:UInt8):qm (l++[b])=qm l+256^l.length*b.toNat:=by
 rw[zB];simp[qm]
end
section
open Go.RowKit
theorem Ch:pX jI 86 5 9:=⟨l6,Tryz.underlying5,mH,nN⟩
theorem OU(k:Nat):(2:Int)^(8*k)=((256^k:Nat):Int):=by
 rw[Int.pow_mul];simp
theorem a0o(n k:Nat)(w:jJ)(hn:n<18446744073709551616)(h1:1<=k)(A:k<=8)(h:n<256^k):
  jV jI 178 #[nk nJ n,nk nI k] w λe w'=>e=nG (nk nI 0)/\w=w':=by
 have hb:(((n:Int)/2^(8*k)) !=0)=false:=by
  rw[OU,bne_eq_false_iff_eq,<-Int.natCast_ediv,Nat.div_eq_of_lt h];rfl
 clear h;go_in;go_wp2_with fail;go_returns;exact⟨rfl,rfl⟩
def xK(k j n:Nat):List jP:=nU (vX j n)++lh (k - j) (nk .u8 0)
theorem L8(k j n:Nat)(h:j<k):(xK k j n).set j (nk .u8 ((n/256^j % 256:Nat):Int))=xK k (j+1) n:=by
 unfold xK;rw[LY,o8,List.set_append_right _ _ nS,show k - j=(k -(j+1))+1 by omega,List.replicate_succ];simp[nU,u8n _ (Nat.mod_lt (n/256^j) (show 0<256 by decide))]
theorem L9(k n:Nat):(nU (vX k n)).length=k:=nS
theorem OV(k j n:Nat)(h:j<k):(xK k j n)[j]? =U (nk .u8 0):=by
 unfold xK;rw[List.getElem?_append_right nS,L9,List.getElem?_replicate,if_pos nL]
theorem FQ(n k:Nat)(w:jJ)(hn:n<18446744073709551616)(ah:k<=8):
  jV jI 179 #[nk nJ n,nk nI k] w λe w'=>e=nG (ny (U (Z w.heap.size 0 V)) k k)/\
   ow w' w.heap.size 5 (ny (U (Z w.heap.size 0 V)) k k) (vX k n)/\jS w.heap.size w w':=by
 obtain⟨ae,hi,N,O,Q⟩:=info_parts Ch.hi;obtain⟨B,hB⟩:=nV w.heap.size;have E:B<=w.heap.size:=nL;rw[hB];have ai:=jH hB;go_in;go_wp2_with (refine wpList_make_full _ rfl (.tmp 7) (.tmp 7) 86 rfl B 5 ae (.int .u8 0) 1 l6 hi N O .i64 .i64 k k k rfl rfl rfl rfl (by rw[Q];omega) yD E ?_;intro w1 A C);rw[hB]at A;have Y:jX ((madeCells (lQ .u8 0).cells (k*1)).toList=xK k 0 n):=by
  unfold jX xK;rw[show(lQ .u8 0).cells=#[nk .u8 0]from rfl,toList_madeCells_one];simp[vX,nU]
 rw[Y.out]at A;have J:jS B w w1:=(jT _ _).grown C E (λ_ h=>by cases h);go_loopw [10] (λi wr=>∃j:Nat,j<=k/\i=nk nI j/\wr.ownsRow B 5 1 (ny (U (Z B 0 V)) k k) k (xK k j n)/\jS B w wr) (λi _=>k -(kT i).toNat);case atStart=>exact⟨0,nL,rfl,A,J⟩
 case round=>
  obtain⟨j,aj,rfl,ho,I⟩:=hrel;by_cases c:j<k
  .have aa:wr.cell? (Z B j V)=U (nk .u8 0):=by rw[ho.cellAt j nL,OV k j n c]
   have ag:=ho.frozenAt j;have af:jX (((n:Int)/2^(8*j) % 256)=((n/256^j % 256:Nat):Int)):=by unfold jX;rw[OU];rfl
   have hst:=ho.stored j (nk .u8 ((n/256^j % 256:Nat):Int));rw[L8 k j n c]at hst;go_wp2_with fail;go_roundw;case rel=>rw[af.out];exact⟨j+1,nL,by go_num,hst.1,I.setCell (p:=(Z B j V)) (jK _) _⟩
   case measure=>simp[kT];omega
  .obtain rfl:j=k:=nL
   go_wp2_with fail;go_returns;refine⟨rfl,?_,I⟩;have e:xK j j n=nU (vX j n):=by unfold xK;simp
   unfold ow;rw[qG,<-e];exact ho
theorem uS(n k:Nat)(w:jJ)(hn:n<18446744073709551616)(h1:1<=k)(A:k<=8)(h:n<256^k):
  jV jI 129 #[nk nJ n,nk nI k] w λe w'=>e=nG (nE #[nz ⟨(vX k n).toArray⟩,nk nI 0])/\jS w.heap.size w w':=by
 have c1:=jH (a0o n k w hn h1 A h);have c2:=jH (FQ n k w hn A);clear h;go_in;go_wp2_with fail;refine c1.mono ?_;rintro e w' ⟨rfl,rfl⟩;go_wp2_with fail;refine c2.mono ?_;rintro e w1 ⟨rfl,ho,hb⟩;have hst:=ho.string Ch;go_wp2_with fail;go_returns;exact⟨rfl,hb⟩
theorem BC{p:Prop}(h:p:=by
 go_in;go_wp2_with fail;go_returns;exact⟨rfl,rfl⟩):p:=h
theorem Ip(w:jJ):jV jI 127 #[nk nI 0] w λe w'=>e=nG (nk nI 1)/\w=w':=by
 exact BC
theorem Iq(k:Nat)(w:jJ)(h:8<k):jV jI 127 #[nk nI k] w λe w'=>e=nG (nk nI 5)/\w=w':=by
 have h0:((k:Int)==0)=false:=wG;exact BC
theorem Et(k:Nat)(w:jJ)(h1:1<=k)(h:k<=8):jV jI 127 #[nk nI k] w λe w'=>e=nG (nk nI 0)/\w=w':=by
 have h0:((k:Int)==0)=false:=wG;exact BC
theorem a2Z(n b j:Nat)(C:j<=7)(hn:n<256^j)(hb:b<256):
  bits BinOp.or IntKind.u64 (n:Int) (IntKind.u64.wrap ((b:Int)*2^(8*j)))=((n+256^j*b:Nat):Int):=by
 have hp:256^j<=72057594037927936:=jY (lg nO C) nO;have h2:=Nat.mul_le_mul (show b<=255 by omega) hp;rw[OU,<-Int.natCast_mul,IntWalk.u64_in _ ⟨nL,nL⟩,u64_or_nat n (b*256^j) nL nL];congr 1;have A:n<2^(8*j):=by rw[Nat.pow_mul];exact hn
 have:=mO A b;rw[Nat.pow_mul]at this;rw[Nat.or_comm,Nat.mul_comm,show(256:Nat)=2^8 from rfl,<-this,Nat.add_comm]
theorem VY(s:ByteArray)(k:Nat)(h:k<s.size):s.data.toList.take (k+1)=s.data.toList.take k++[s[k]]:=by
 rw[List.take_succ_eq_append_getElem (by simpa using h)];rfl
theorem Ma(k:Nat)(h:k<=8):256^k<=18446744073709551616:=jY (lg nO h) nO
theorem Rj{p:Prop}(h:p:=by
 go_wp2_with fail;go_round;case rel=>exact⟨k+1,_,nL,by go_num,by rw[hor.out],hnx⟩
 case measure=>simp[kT];omega):p:=h
theorem Rk{p:Prop}(h:p:=by
 obtain rfl:k=s.size:=nL;go_wp2_with fail;go_returns;exact⟨by rw[hv.out,List.take_of_length_le nS];rfl,rfl⟩):p:=h
theorem sV(s:ByteArray)(w:jJ)(h1:1<=s.size)(E:s.size<=8):
  jV jI 93 #[nz s] w λe w'=>e=nG (nE #[nk nJ (qm s.data.toList),nk nI 0])/\w=w':=by
 have c1:=jH (Et s.size w h1 E);go_in;go_wp2_with fail;refine c1.mono ?_;rintro e w' ⟨rfl,rfl⟩;go_wp2_with fail;go_loop [5,15] (λC i=>∃k n:Nat,k<=s.size/\i=nk nI k/\C=nk nJ n/\jX (n=qm (s.data.toList.take k))) (λ_ i=>s.size -(kT i).toNat);case atStart=>exact⟨0,0,nL,rfl,rfl,by simp[qm,jX]⟩
 case round=>
  obtain⟨k,n,hk,rfl,rfl,hv⟩:=hrel;by_cases c:k<s.size
  .have hb:s[k].toNat<=255:=by have:=s[k].toNat_lt;omega
   have A:(s.data.toList.take k).length=k:=by rw[mi];simp;omega
   have hn:n<256^k:=by have:=uz (s.data.toList.take k);rw[A]at this;rw[hv.out];exact this
   have hor:=jH (a2Z n s[k].toNat k nL hn nL);have hnx:jX (n+256^k*s[k].toNat=qm (s.data.toList.take (k+1))):=by unfold jX;rw[VY s k c,Tz,hv.out,A]
   clear hn A;exact Rj
  .exact Rk
theorem wH(s:ByteArray)(w:jJ)(h:s.size=0):
  jV jI 93 #[nz s] w λe w'=>e=nG (nE #[nk nJ 0,nk nI 1])/\w=w':=by
 have c1:=jH (Ip w);go_in;go_wp2_with fail;refine c1.mono ?_;rintro e w' ⟨rfl,rfl⟩;go_wp2_with fail;go_returns;exact⟨rfl,rfl⟩
theorem BD(s:ByteArray)(w:jJ)(h:8<s.size):
  jV jI 93 #[nz s] w λe w'=>e=nG (nE #[nk nJ 0,nk nI 5])/\w=w':=by
 have c1:=jH (Iq s.size w h);go_in;go_wp2_with fail;refine c1.mono ?_;rintro e w' ⟨rfl,rfl⟩;go_wp2_with fail;go_returns;exact⟨rfl,rfl⟩
def uA(l:List UInt8):Nat×Nat×Nat:=
 if(oD l 0 0).2.2=0 then if 4294967295<(oD l 0 0).1 then(0,0,5)else oD l 0 0 else(0,0,(oD l 0 0).2.2)
theorem BG{p:Prop}(h:p:=by
 go_in;go_wp2_with fail;refine(C1 _).mono ?_;rintro e w' ⟨rfl,rfl⟩;go_wp2_with fail;go_returns;exact⟨rfl,rfl⟩):p:=h
theorem TA(s:ByteArray)(w:jJ)(hs:s.size<=j3):
  jV jI 188 #[nz s] w λe w'=>e=nG (nE #[nk nI (uA s.data.toList).1,nk nI (uA s.data.toList).2.1,nk nI (uA s.data.toList).2.2])/\w=w':=by
 have c1:=λw=>Cm s w hs
 have hp:uA s.data.toList=if(oD s.data.toList 0 0).2.2=0 then if 4294967295<(oD s.data.toList 0 0).1 then(0,0,5)else oD s.data.toList 0 0 else(0,0,(oD s.data.toList 0 0).2.2):=rfl
 have hlt:=λN K h=>(tN (l:=s.data.toList) (N:=N) (K:=K) h).2.1
 unfold j3 at hs;generalize uA s.data.toList=r at*;generalize oD s.data.toList 0 0=t at*;obtain⟨n,k,e⟩:=t;have C1:jX (∀w,jV jI 126 #[nz s] w λA w'=>A=nG (nE #[nk nJ n,nk nI k,nk nI e])/\w=w'):=c1;clear c1;by_cases he:e=0
 .subst he
  have hn:=hlt n k rfl;clear hlt;rw[if_pos rfl]at hp;by_cases h2:4294967295<n
  .rw[if_pos h2]at hp
   subst hp;exact BG
  .rw[if_neg h2]at hp
   subst hp;have I:n<=4294967295:=nL;clear h2;exact BG
 .rw[if_neg he]at hp
  subst hp;have C:((e:Int)==0)=false:=wG;have E:((e:Int) !=0)=true:=FL;clear he hlt;exact BG
theorem TB{l:List UInt8}{n k:Nat}(h:uA l=(n,k,0)):k<=l.length/\n<=4294967295:=by
 unfold uA at h;split at h
 .rename_i h0
  split at h;.cases h
  .rename_i h1
   have:=tN (l:=l) (N:=n) (K:=k) (by rw[h]);rw[h]at h1;exact⟨nL,by simpa using h1⟩
 .rename_i h0
  injection h with _ h
  injection h with _ h
  exact absurd h h0
def xe(r:RS)(n:Int):Nat:=qm (r.take n).2.data.toList
theorem take_size(r:RS)(n:Nat):(r.take n).2.size<=n:=by
 unfold RS.take;split
 .split
  .exact kH _
  .split
   .exact kH _
   .simp[kC];omega
 .exact kH _
theorem J7(r:RS)(n:Nat)(h:n<=8):(r.take n).2.size=0\/(1<=(r.take n).2.size/\(r.take n).2.size<=8):=by
 have:=take_size r n;omega
theorem Mc(b Q:Nat)(r:RS)(x:Int)(n:Nat)(w:jJ)(Y:r.Ok)(hb:vW w b r)(c0:w.cell? (Z Q 0 V)=U (nA (U (Z b 0 V))))(ag:x=n)(hn:n<=4):
  jV jI 223 #[nk nI x,nA (U (Z Q 0 V))] w (zx b w (r.take x).1 (nk nI (xe r x:Nat))):=by
 subst ag;have ah:=jH (qj b r n w Y hb);have hlt:xe r n<4294967296:=by
  have h1:=uz (r.take n).2.data.toList;have h2:(r.take n).2.data.toList.length<=4:=by
   rw[kY];have:=take_size r n;show(r.take n).2.size<=4;omega
  exact kG h1 (jY (lg nO h2) nO)
 have aa:=J7 r n nL;have A:=λw h1 I=>sV (r.take n).2 w h1 I
 have C:=λw h=>wH (r.take n).2 w h
 have J:xe r n=qm (r.take n).2.data.toList:=rfl;generalize xe r n=ai at*;generalize (r.take n).2=T at*;generalize (r.take n).1=r' at*;have N:∀w,jV jI 93 #[nz T] w λe w'=>(∃er:Int,e=nG (nE #[nk nJ (ai:Nat),nk nI er]))/\w=w':=λw=>by
  rcases aa with h0|⟨h1,I⟩
  .have:ai=0:=by rw[J,List.eq_nil_of_length_eq_zero (show T.data.toList.length=0 by simpa using h0)];rfl
   subst this;exact(C w h0).mono λe w' ⟨h,O⟩=>⟨⟨_,h⟩,O⟩
  .rw[J]
   exact(A w h1 I).mono λe w' ⟨h,O⟩=>⟨⟨_,h⟩,O⟩
 have N:=jH N;clear aa A C J Y;unfold zx at*;go_in;go_wp2_with fail;refine ah.mono ?_;rintro e w2 ⟨rfl,ae,E⟩;have af:=jH (jU ae E);clear ae E;go_wp2_with fail;refine(N _).mono ?_;rintro e w3 ⟨⟨er,rfl⟩,rfl⟩;go_wp2_with fail;go_returns;exact⟨rfl,af.1,af.2⟩
abbrev wB:ko:=5
abbrev TC:ko:=86
theorem own_ne{w:jJ}{B b:Nat}{v:jP}{l:List UInt8}{cs:Array jP}{t:ko}(h:ow w B wB v l)(hb:nP w b cs t)(ht:t≠wB):v.ownBlock≠U b:=by
 intro e;rcases h.2 with⟨rfl,_⟩|⟨g,cap,A,rfl,hg,hh,_⟩
 .simp[kJ]at e
 .simp only[kJ,mF]at e
  subst e;unfold nP at hb;rw[hh]at hb;simp at hb;exact ht hb.2.symm
def uB(k v:Nat)(r:RS):RS×Nat×Nat:=
 if k=0 then if 60<=v then((r.take ((v:Int) - 59)).1,xe r ((v:Int) - 59)+1,0)else(r,v+1,0)
 else if k=1 then((r.take 1).1,4+v % 8,v/8*256+xe r 1)
 else if k=2 then((r.take 2).1,v+1,xe r 2)
 else((r.take 4).1,v+1,xe r 4)
def y7:Nat->Nat->Nat->List UInt8->List UInt8
 |0,_,_,l=>l
 |f+1,n,A,l=>if n=0 then l else y7 f (n - min n A) A (l++(l.drop (l.length - A)).take (min n A))
def xm(k:Nat)(h:RS×Nat×Nat)(l:List UInt8)(size:Nat):RS×List UInt8:=
 if h.1.f≠0 then(h.1,l)
 else if(k≠0/\(h.2.2=0\/l.length<h.2.2))\/size - l.length<h.2.1 then(h.1.fail 3,l)
 else if k=0 then((h.1.take (h.2.1:Nat)).1,l++(h.1.take (h.2.1:Nat)).2.data.toList)
 else(h.1,y7 h.2.1 h.2.1 h.2.2 l)
def sj(r:RS)(l:List UInt8)(size:Nat):RS×List UInt8:=xm (r.byte.2.toNat % 4) (uB (r.byte.2.toNat % 4) (r.byte.2.toNat/4) r.byte.1) l size
structure J8(B b:Nat)(w0:jJ)(r:RS)(v:jP)(l:List UInt8)(w:jJ):Prop where
 own:ow w B wB v l
 rd:vW w b r
 ok:r.Ok
 hB:B<=b
 pR:jS B w0 w
abbrev CRT:ko:=220
theorem a3a:CRT≠wB:=nO
section
variable {B b:Nat}{w0 w w':jJ}{r r':RS}{v:jP}{l:List UInt8}
theorem J8.lt(h:J8 B b w0 r v l w):b<w.heap.size:=nP.lt h.rd
theorem J8.below(h:J8 B b w0 r v l w)(hb:jS w.heap.size w w'):J8 B b w0 r v l w':=
 ⟨h.own.below hb,Below.blk hb h.rd h.lt,h.ok,h.hB,h.pR.trans (hb.mono (jY h.hB (mX h.lt)))⟩
theorem J8.ne(h:J8 B b w0 r v l w):v.ownBlock≠U b:=own_ne h.own h.rd a3a
theorem J8.read(h:J8 B b w0 r v l w)(A:pE b w w')(I:vW w' b r')(hok:r'.Ok):J8 B b w0 r' v l w':=by
 refine⟨?_,I,hok,h.hB,A.below h.pR h.hB (jY h.hB (mX h.lt))⟩;obtain⟨h1,h2⟩:=h.own;refine⟨h1,?_⟩;rcases h2 with h2|⟨g,cap,C,E,hg,hh,r⟩
 .exact .inl h2
 .refine .inr ⟨g,cap,C,E,hg,?_,r⟩
  rw[A.block g (ku.1 hh).1 (by
   have:=h.ne;rw[E]at this;simpa [kJ,eq_comm]using this)]
  exact hh
theorem J8.grow{m:List UInt8}{v':jP}(h:J8 B b w0 r v l w)(ho:ow w' B wB v' (l++m))(hg:w.grownBy w' v.ownBlock):J8 B b w0 r v' (l++m) w':=by
 refine⟨ho,?_,h.ok,h.hB,h.pR.grown hg (jY h.hB (mX h.lt)) λk hk=>(h.own.lt k hk).1⟩;unfold vW nP;rw[hg.block b h.lt (λe=>h.ne e.symm)];exact h.rd
end
theorem DD(T:ByteArray):T.size=T.data.toList.length:=nS
theorem a0p{w:jJ}{B M cp:Nat}{C:Option lH}{l:List UInt8}(N:l.length=M)(h:ow w B wB (ny C M cp) l):M<=cp/\cp<=j3:=by
 rcases h.2 with⟨A,h0⟩|⟨g,cap,J,A,hg,hh,E,I,_⟩
 .injection A with _ h1 h2
  subst h1 h2;exact⟨jK _,kH _⟩
 .injection A with _ h1 h2
  subst h1 h2;exact⟨nL,I⟩
theorem BH:(Tryz.prog.info? wB).map (λi=>(i.zero,i.size,i.bytes))=U (U (nk .u8 0),1,1):=nN
theorem Md(r:RS)(n:Nat)(h:n<=4):xe r n<256^n:=by
 have h1:=uz (r.take n).2.data.toList;have h2:(r.take n).2.data.toList.length<=n:=by
  rw[kY];have:=take_size r n;show(r.take n).2.size<=n;omega
 exact kG h1 (lg nO h2)
theorem a0q(r:RS)(n:Nat)(h:n<=4):xe r n<4294967296:=kG (Md r n h) (jY (lg nO h) nO)
theorem a3b(r:RS):xe r 1<256:=Md r 1 nO
theorem VZ:∀q:Fin 256,bits BinOp.and IntKind.u8 (q.val:Int) 3=((q.val % 4:Nat):Int):=yZ
theorem a7W(q:Nat)(h:q<=255):bits BinOp.and IntKind.u8 (q:Int) 3=((q % 4:Nat):Int):=VZ ⟨q,nL⟩
theorem V3(r:RS):∃q:Nat,r.byte.2=(q:Int)/\q<=255:=by
 unfold RS.byte;split
 .split
  .rename_i h
   exact⟨r.t[r.p].toNat,rfl,by have:=r.t[r.p].toNat_lt;omega⟩
  .exact⟨0,rfl,nL⟩
 .exact⟨0,rfl,nL⟩
theorem J9{p:Prop}(h:p:=by
 go_wp2_with fail;refine CF.mono ?_;rintro e w4 ⟨rfl,rfl⟩;go_wp2_with fail;refine CX.mono ?_;rintro e w5 ⟨rfl,hu,hr⟩;have HF:=jH (H3.read hu hr a3c);clear hu hr;go_wp2_with fail;go_returns;exact⟨_,rfl,by rw[HR.out];exact HF.out⟩):p:=h
theorem V4{p:Prop}(h:p:=by
 clear CL HLT;go_wp2_with fail;refine CLL.mono ?_;rintro e w3 ⟨rfl,hu,hr⟩;have H3:=jH (H2.read hu hr Me);have HB3:=jH (hu.blk TD hbg);clear hu hr;go_wp2_with fail;go_meet;exact⟨v+1,X,r2,by congr 1,rfl,nL,nL,HH,H3,HB3⟩):p:=h
theorem Ka(B b:Nat)(w0:jJ)(r:RS)(v:jP)(l:List UInt8)(size:Nat)(w:jJ)(h:J8 B b w0 r v l w)(hl:l.length<=size)(hs:size<=65536):
  jV jI 190 #[nA (U (Z b 0 V)),v,nk nI size] w λe w'=>∃v',e=nG v'/\J8 B b w0 (sj r l size).1 v' (sj r l size).2 w':=by
 have H:=jH h;obtain⟨g,hg⟩:=nV w.heap.size;obtain⟨L,hL⟩:=nV l.length;have aa:=jH hL;obtain⟨oa,cap,rfl⟩:∃oa cap,v=ny oa L cap:=by
  rcases h.own.2 with⟨rfl,h0⟩|⟨g,cap,bF,rfl,_⟩
  .exact⟨V,0,by rw[<-hL,h0]⟩
  .exact⟨_,_,by rw[<-hL]⟩
 have df:∀(fn:Fn)(first cap:Array jP)(w:jJ),(mJ fn first cap).run jI w=.ok (.func fn first cap) w:=λ_ _ _ _=>rfl
 have ay:=nP.new w #[nA (U (Z b 0 V))] 193;have aP:=(jT w.heap.size w).alloc (jK _) (nH #[nA (U (Z b 0 V))] 193);have az:=jH (h.below aP);have aY:=h.lt;rw[hg]at ay aY;rw[hL]at hl;have aA:=jH ay;obtain⟨R,aZ⟩:=nV (sj r l size);have HR:=jH aZ;rw[aZ];clear h hL ay aP aZ;go_in;go_upto_region 1 with fail;generalize w.alloc _=w1 at*;have c0:=aA.c0;have aM:=jH (LV b r w1 az.ok az.rd);unfold zx at aM;obtain⟨r1,ax⟩:=nV r.byte.1;obtain⟨q,bg,bG⟩:∃q:Nat,r.byte.2=(q:Int)/\q<=255:=V3 r;have aN:jX (R=xm (q % 4) (uB (q % 4) (q/4) r1) l size):=jH (by rw[<-HR.out];unfold sj;rw[ax,bg];rfl);have O:jX r1.Ok:=jH (ax▸az.ok.byte);rw[ax,bg]at aM;clear ax bg HR;go_wp2_with fail;refine aM.mono ?_;rintro e w2 ⟨rfl,aB,aQ⟩;have hbg:g≠b:=nL;have TD:=jH (aB.blk aA hbg);have H2:=jH (az.read aB aQ O);clear aB aQ c0 aM az aA H;have c0:=TD.c0;go_upto_block 0 with fail;obtain⟨k,hk⟩:=nV (q % 4);obtain⟨v,bH⟩:=nV (q/4);have e1:bits BinOp.and IntKind.u8 (q:Int) 3=(k:Int):=by rw[a7W q bG,hk]
 have e2:(q:Int)/4=(v:Int):=nL;simp only[e1,e2];have bq:v<=63:=nL;have bI:k<4:=nL;rw[hk,bH]at aN;clear e1 e2 hk bH;have dE:=jH (jU bq bI);go_cut [11,12] (λaC bv bJ=>∃(n A:Nat) (r2:RS),aC=nk nI (n:Int)/\bv=nk nI (A:Int)/\n<=4294967296/\A<=4294967296/\jX (uB k v r1=(r2,n,A))/\jX (J8 B b w0 r2 (ny oa L cap) l bJ)/\jX (nP bJ g #[nA (U (Z b 0 V))] 193));case first=>
  have CL:=jH (λ(x:Int) (n:Nat) hx hn=>Mc b g r1 x n w2 O H2.rd c0 hx hn);have HLT:=jH (λ(n:Nat) hn=>a0q r1 n hn);unfold zx at CL;clear aN aa;obtain rfl|rfl|rfl|rfl:k=0\/k=1\/k=2\/k=3:=nL
  .by_cases aR:60<=v
   .have bu:(v:Int) - 59=((v - 59:Nat):Int):=nL
    have CLL:=jH (CL ((v:Int) - 59) (v - 59) bu nL);have hlt:=HLT.out (v - 59) nL;rw[<-bu]at hlt;have HH:jX (uB 0 v r1=((r1.take ((v:Int) - 59)).1,xe r1 ((v:Int) - 59)+1,0)):=jH (by unfold uB;rw[if_pos rfl,if_pos aR]);have Me:=jH (O.take ((v:Int) - 59));generalize xe r1 ((v:Int) - 59)=X at*;generalize (r1.take ((v:Int) - 59)).1=r2 at*;clear bu CL HLT;go_wp2_with fail;refine CLL.mono ?_;rintro e w3 ⟨rfl,hu,hr⟩;have H3:=jH (H2.read hu hr Me);have HB3:=jH (hu.blk TD hbg);clear hu hr;go_wp2_with fail;go_meet;exact⟨X+1,0,r2,by congr 1,rfl,nL,nL,HH,H3,HB3⟩
   .have HH:jX (uB 0 v r1=(r1,v+1,0)):=jH (by unfold uB;rw[if_pos rfl,if_neg aR])
    clear CL HLT;go_wp2_with fail;go_meet;exact⟨v+1,0,r1,by congr 1,rfl,nL,nL,HH,H2,TD⟩
  .have CLL:=jH (CL 1 1 rfl nO)
   have hlt:=HLT.out 1 nO;have HH:jX (uB 1 v r1=((r1.take 1).1,4+v % 8,v/8*256+xe r1 1)):=jH rfl;have Me:=jH (O.take 1);have hlt:xe r1 1<4294967296:=hlt;have bV:=a3b r1;generalize xe r1 1=X at*;generalize (r1.take 1).1=r2 at*;clear CL HLT;go_wp2_with fail;refine CLL.mono ?_;rintro e w3 ⟨rfl,hu,hr⟩;have H3:=jH (H2.read hu hr Me);have HB3:=jH (hu.blk TD hbg);clear hu hr;go_wp2_with fail;go_meet;exact⟨4+v % 8,v/8*256+X,r2,by congr 1,by congr 1,nL,nL,HH,H3,HB3⟩
  .have CLL:=jH (CL 2 2 rfl nO)
   have hlt:xe r1 2<4294967296:=HLT.out 2 nO;have HH:jX (uB 2 v r1=((r1.take 2).1,v+1,xe r1 2)):=jH rfl;have Me:=jH (O.take 2);generalize xe r1 2=X at*;generalize (r1.take 2).1=r2 at*;exact V4
  .have CLL:=jH (CL 4 4 rfl nO)
   have hlt:xe r1 4<4294967296:=HLT.out 4 nO;have HH:jX (uB 3 v r1=((r1.take 4).1,v+1,xe r1 4)):=jH rfl;have Me:=jH (O.take 4);generalize xe r1 4=X at*;generalize (r1.take 4).1=r2 at*;exact V4
 case rest=>
  obtain⟨n,A,r2,rfl,rfl,hn,bU,HH,H3,HB3⟩:=hcut;have Y:jX (R=xm k (r2,n,A) l size):=jH (by rw[aN.out,HH.out]);have CF:=jH (qd b r2 wc H3.rd);have bW:=HB3.c0;clear aN HH H2 TD O c0;by_cases ag:r2.f=0;case neg=>
   have HR:jX (R=(r2,l)):=jH (by rw[Y.out];unfold xm;rw[if_pos ag]);have dh:(r2.f !=0)=true:=by simp[ag]
   clear ag Y;go_wp2_with fail;refine CF.mono ?_;rintro e w4 ⟨rfl,rfl⟩;go_wp2_with fail;go_returns;exact⟨_,rfl,by rw[HR.out];exact H3.out⟩
  rw[ag]at CF;by_cases E:(k≠0/\(A=0\/L<A))\/size - L<n
  .have HR:jX (R=(r2.fail 3,l)):=jH (by rw[Y.out];unfold xm;rw[if_neg (by simpa using ag),if_pos (by rw[aa.out];exact E)])
   have CX:=jH (tZ b r2 3 wc H3.rd);have a3c:=jH (H3.ok.fail 3);generalize r2.fail 3=r3 at*;have dw:=jH E;have bK:(k=0/\((k:Int) !=0)=false/\size - L<n)\/(((k:Int) !=0)=true/\A=0)\/(((k:Int) !=0)=true/\((A:Int)==0)=false/\L<A)\/(((k:Int) !=0)=true/\((A:Int)==0)=false/\A<=L/\size - L<n):=by
    by_cases N:k=0;.exact .inl ⟨N,by simp[N],E.elim (λh=>absurd N h.1) id⟩
    .have e1:((k:Int) !=0)=true:=by simp[N]
     by_cases hb0:A=0;.exact .inr (.inl ⟨e1,hb0⟩)
     .have e2:((A:Int)==0)=false:=by simp[hb0]
      by_cases aS:L<A;.exact .inr (.inr (.inl ⟨e1,e2,aS⟩))
      .exact .inr (.inr (.inr ⟨e1,e2,nL,E.elim (λh=>by omega) id⟩))
   clear E Y ag aa;rcases bK with⟨rfl,e1,e3⟩|⟨e1,rfl⟩|⟨e1,e2,e3⟩|⟨e1,e2,e3,e4⟩
   .exact J9
   .exact J9
   .exact J9
   .exact J9
  .have dx:L+n<=size:=nL
   by_cases N:k=0
   .subst N
    have HR:jX (R=((r2.take (n:Nat)).1,l++(r2.take (n:Nat)).2.data.toList)):=jH (by rw[Y.out];unfold xm;rw[if_neg (by simpa using ag),if_neg (by rw[aa.out];exact E),if_pos rfl]);have bL:=jH (qj b r2 n wc H3.ok H3.rd);have Me:=jH (H3.ok.take n);have dz:=take_size r2 n;unfold zx at bL;generalize (r2.take (n:Nat)).1=r3 at*;generalize (r2.take (n:Nat)).2=bz at*;obtain⟨bA,hi,aD,aF,aG⟩:=info_parts BH;clear E Y ag;go_wp2_with fail;refine CF.mono ?_;rintro e w4 ⟨rfl,rfl⟩;go_wp2_with fail;refine bL.mono ?_;rintro e w5 ⟨rfl,hu,hr⟩;have aO:=jH (H3.read hu hr Me);have C:=jH aO.own;have aH:B<=w5.heap.size:=jY aO.hB (mX aO.lt);clear hu hr;unfold ow at C;rw[aa.out]at C;go_wp2_with (at_builtin;refine Lib.wpList_append_own_string _ rfl _ _ 86 9 rfl B 5 bA l6 mH hi aD aF aG _ _ _ rfl C bz rfl ?c3 ?c4 ?c5 ?_);case c3=>unfold j3;omega
    case c4=>omega
    case c5=>exact aH
    intro v' bX Q ai _;have HF:=jH (aO.grow (m:=bz.data.toList) (v':=v') (by unfold ow;rw[j5,aa.out,o8,<-DD bz];exact Q) ai);clear Q ai;go_wp2_with fail;go_returns;exact⟨_,rfl,by rw[HR.out];exact HF.out⟩
   .have e1:((k:Int) !=0)=true:=by simp[N]
    have hb0:1<=A/\A<=L:=nL;obtain⟨aS,bM⟩:=hb0;have e2:((A:Int)==0)=false:=nT;have e3:((k:Int)==0)=false:=by simp[N]
    have e4:decide (L<A)=false:=decide_eq_false nL;have e5:decide ((size:Int) -(L:Int)<(n:Int))=false:=decide_eq_false nL;have HR:jX (R=(r2,y7 n n A l)):=jH (by rw[Y.out];unfold xm;rw[if_neg (by simpa using ag),if_neg (by rw[aa.out];exact E),if_neg N]);obtain⟨aI,av⟩:=nV (y7 n n A l);rw[av]at HR;have bN:=jH av;obtain⟨bB,bO⟩:∃bB,oa=U (Z bB 0 V):=by
     rcases H3.own.2 with⟨aT,h0⟩|⟨g,cap,bF,aT,_⟩
     .have:=aa.out;omega
     .injection aT with h1 _ _;exact⟨g,h1⟩
    subst bO;obtain⟨bA,hi,aD,aF,aG⟩:=info_parts BH;have bP:L+n<=65536:=nL;clear E Y ag N av;go_wp2_with fail;refine CF.mono ?_;rintro e w4 ⟨rfl,rfl⟩;go_wp2_with fail;clear bW CF;go_loopw [1,11] (λlv aC bY=>∃(af cp I F:Nat) (J:List UInt8),lv=ny (U (Z af 0 V)) J.length cp/\aC=nk nI (I:Int)/\J.length+I<=65536/\A<=J.length/\jX (I<=F/\y7 F I A J=aI)/\jX (J8 B b w0 r2 (ny (U (Z af 0 V)) J.length cp) J bY)) (λ_ aC _=>(kT aC).toNat);case atStart=>exact⟨bB,cap,n,n,l,by rw[aa.out],rfl,by rw[aa.out];omega,by rw[aa.out];exact bM,jH ⟨jK _,bN.out⟩,by rw[aa.out];exact H3⟩
    case round=>
     obtain⟨af,cp,I,F,J,rfl,rfl,bQ,bR,aJ,aj⟩:=hrel;clear H3;obtain⟨M,bC⟩:=nV J.length;have ah:=jH bC;rw[bC]at bQ bR aj⊢;clear bC;by_cases aU:I=0
     .subst aU
      have bZ:jX (J=aI):=jH (by have:=aJ.2;cases F<;>simpa [y7]using this);go_wp2_with fail;go_returns;refine⟨_,rfl,?_⟩;rw[HR.out,<-bZ.out];exact aj
     .have aV:M<=cp/\cp<=j3:=a0p ah aj.own
      have cz:0<I:=nL;unfold j3 at aV;obtain⟨cK,cZ⟩:=aV;clear aU;go_upto_region 23 with fail;go_upto_region 25 with fail;obtain⟨p,hp⟩:=nV (min I A);have aK:(if A<I then(A:Int)else(I:Int))=(p:Int):=by split<;>omega
      simp only[aK,Int.toNat_natCast];have aW:1<=p/\p<=A/\p<=I:=nL;obtain⟨aW,dA,dB⟩:=aW;obtain⟨part,ae⟩:=nV ((J.drop (M - A)).take p);have aX:part.length=p:=by rw[<-ae,mi,kX,ah.out];omega
      obtain⟨F2,rfl⟩:∃F2,F=F2+1:=⟨F - 1,by have:=aJ.1;omega⟩;have bS:jX (I - p<=F2/\y7 F2 (I - p) A (J++part)=aI):=jH ⟨by have:=aJ.1;omega,by
       have h1:=aJ.2;rw[show y7 (F2+1) I A J=if I=0 then J else y7 F2 (I - min I A) A (J++(J.drop (J.length - A)).take (min I A))from rfl,if_neg nL,hp,ah.out,ae]at h1;exact h1⟩
      have ak:jX (∀j u,(nU part)[j]? =U u->wr.cell? (((Z af (M - A) V):lH).add j)=U u):=jH λj u bT=>by
       have e1:((Z af (M - A) V):lH).add j=(Z af (M - A+j) V):=FM;have e2:((Z af 0 V):lH).add (M - A+j)=(Z af (M - A+j) V):=FM;rw[e1,<-e2];have dC:j<part.length:=by have:=(lF.1 bT).1;simpa using this
       have C:=aj.own;refine World.ownsRow.cells C (g:=af) rfl (M - A+j) u ?_;rw[<-bT];unfold nU;rw[List.getElem?_map,List.getElem?_map];congr 1;rw[<-ae,List.getElem?_take_of_lt nL,List.getElem?_drop]
      have C:=jH aj.own;unfold ow at C;rw[ah.out]at C;have aH:B<=wr.heap.size:=jY aj.hB (mX aj.lt);have dD:100000<=j3:=yZ;have au:=jH aX;clear hp aK ae aX aJ;go_upto_region 26 with(at_builtin;go_loud (refine wpList_append_lies wr rfl _ _ TC rfl B wB bA (.int .u8 0) 1 1 l6 hi aD aF aG rfl nO (.slice (U (Z af 0 V)) M cp) M (nU J) rfl C (Z af (M - A) V) p _ (nU part) rfl (by rw[qZ,au.out];omega) ak (rO _) nL nL nL aH _ rfl ?_);intro g2 aL bX Q ai bD bE)
      have HF:=jH (aj.grow (m:=part) (v':=ny (U (Z g2 0 V)) (M+p) aL) (by unfold ow;rw[j5,ah.out,au.out,o8];exact Q) ai);clear Q ai bD bE C ak;go_wp2_with fail;go_roundw;case rel=>exact⟨g2,aL,I - p,F2,J++part,by rw[j5,ah.out,au.out],by congr 1;omega,by rw[j5,ah.out,au.out];omega,by rw[j5,ah.out];omega,bS,by rw[j5,ah.out,au.out];exact HF⟩
      case measure=>simp[kT];omega
def OW(mo us ta tq:Int):Array jP:=#[nk nI mo,nk nI us,nk nI ta,nk nI tq]
theorem TE(n:Int)(w:jJ):
  jV jI 32 #[nk nI n] w λe w'=>e=nG (nA (U (Z w.heap.size 0 V)))/\w'=w.alloc (nH (OW (if n<0 then 0 else n) 0 0 0) 119):=by
 by_cases h:n<0
 all_goals
  go_in;go_wp2;go_returns;exact⟨rfl,rfl⟩
def Ar(mo us ta n:Int):Int:=if mo - us<n\/9223372036854775807 - ta<n then 5 else 0
theorem Kb{p:Prop}(h:p:=by
 go_in;go_wp2;go_quiet (fail);go_wp2;go_returns;exact⟨rfl,_,rfl⟩):p:=h
theorem take1(b p q:Nat)(mo us ta tq n:Int)(w:jJ)(h0:0<=us)(h1:us<=mo)(h2:mo<=9223372036854775807)(I:0<=ta)(J:ta<=9223372036854775807)(hb:nP w b (OW mo us ta tq) 119)(hp:w.cell? (Z p 0 V)=U (nk nI n))(N:w.cell? (Z q 0 V)=U (nA (U (Z b 0 V)))):
  jV jI 60 #[nA (U (Z p 0 V)),nA (U (Z q 0 V))] w λe w'=>e=nG (nk nI (Ar mo us ta n))/\∃k,w'=w.drewN k:=by
 have c0:=hb.cell 0;have c1:=hb.cell 1;have c2:=hb.cell 2;simp[OW]at c0 c1 c2;by_cases A:mo - us<n
 .have e:Ar mo us ta n=5:=if_pos (.inl A)
  rw[e];clear e;exact Kb
 .have C:decide (mo - us<n)=false:=by simpa using A
  by_cases d2:9223372036854775807 - ta<n
  .have e:Ar mo us ta n=5:=if_pos (.inr d2)
   rw[e];clear e A;exact Kb
  .have e:Ar mo us ta n=0:=if_neg nL
   rw[e];have E:decide (9223372036854775807 - ta<n)=false:=by simpa using d2
   clear e A d2;exact Kb
theorem take2(b p q:Nat)(mo us ta tq n:Int)(w:jJ)(h0:0<=us+n)(h1:us+n<=9223372036854775807)(E:0<=ta+n)(I:ta+n<=9223372036854775807)(A:q≠b)(C:p≠b)(hb:nP w b (OW mo us ta tq) 119)(hp:w.cell? (Z p 0 V)=U (nk nI n))(J:w.cell? (Z q 0 V)=U (nA (U (Z b 0 V)))):
  jV jI 61 #[nA (U (Z q 0 V)),nA (U (Z p 0 V))] w λe w'=>e=nG (nE #[])/\pE b w w'/\nP w' b (OW mo (us+n) (ta+n) tq) 119:=by
 have c1:=hb.cell 1;have c2:=hb.cell 2;have f1:=hb.free 1;have f2:=hb.free 2;simp[OW]at c1 c2;go_in;go_wp2;go_region;go_wp2;go_region;go_wp2;go_returns;exact⟨rfl,(((pE.refl b w).set 1 _).set 2 _).drew.drew,(hb.set 1 _).set 2 _⟩
def a2y(b:Nat)(w:jJ)(r mo us ta tq:Int):Ending->jJ->Prop:=λe w'=>
 e=nG (nk nI r)/\pE b w w'/\nP w' b (OW mo us ta tq) 119
def TF(a b:Int):Int:=if a<b then b else a
theorem Kc(b:Nat)(mo us ta tq n r:Int)(cf A:Array jP)(w:jJ)(hn:0<=n)(I:((r:Int) !=0)=true)(hb:nP w b (OW mo us ta tq) 119)(h1:jV jI 60 cf w λe w'=>e=nG (nk nI r)/\∃k,w'=w.drewN k):
  jV jI 59 #[nA (U (Z b 0 V)),nk nI n,.func (.func 60) #[] cf,.func (.func 61) #[] A] w (a2y b w r mo us ta tq):=by
 have C:=jH h1;clear h1;have E:decide (n<0)=false:=by simpa using hn
 go_in;go_wp2_with fail;refine C.mono ?_;rintro e w1 ⟨rfl,k,rfl⟩;go_wp2_with fail;go_returns;exact⟨rfl,⟨rfl,rfl,rfl,jK _,λ_ _ _=>rfl⟩,hb⟩
theorem Ke(b:Nat)(mo us ta tq A E n:Int)(cf I:Array jP)(w:jJ)(hn:0<=n)(hb:nP w b (OW mo us ta tq) 119)(h1:jV jI 60 cf w λe w'=>e=nG (nk nI 0)/\∃k,w'=w.drewN k)(h2:∀k,jV jI 61 I (w.drewN k) λe w'=>e=nG (nE #[])/\pE b (w.drewN k) w'/\nP w' b (OW mo A E tq) 119):
  jV jI 59 #[nA (U (Z b 0 V)),nk nI n,.func (.func 60) #[] cf,.func (.func 61) #[] I] w (a2y b w 0 mo A E (TF tq A)):=by
 have J:=jH h1;have N:=jH h2;clear h1 h2;have Q:decide (n<0)=false:=by simpa using hn
 have Y:(if tq<A then A else tq)=TF tq A:=rfl;generalize TF tq A=m at*;go_in;go_wp2_with fail;refine J.mono ?_;rintro e w1 ⟨rfl,k,rfl⟩;go_wp2_with fail;refine(N k).mono ?_;rintro e w2 ⟨rfl,O,C⟩;have c1:=C.cell 1;have c3:=C.cell 3;have f3:=C.free 3;simp[OW]at c1 c3;go_wp2_with fail;go_region;go_wp2;go_returns;refine⟨rfl,?_,?_⟩
 .refine pE.trans (v:=w.drewN k) ⟨rfl,rfl,rfl,jK _,λ_ _ _=>rfl⟩ ?_
  exact(O.set 3 _).drew
 .exact C.set 3 _
end
end Go.Proofs.YtamfcjmhnndbdaaGreatDoor


