/- Part 0 of the proof. -/
import Derived.WalkKit
import Derived.Lib.Hide
import Derived.Handy
import Derived.Deep.QuietTactic
import Derived.Laws.IdiomStrings
import Derived.Laws.BytesArg
import Derived.BigQuiet
import Derived.StillTail
import Derived.Test.YtamfcjmhnndbdaaGreatDoorRows
import Derived.WalkSpells
import Derived.RegionTactic
import Derived.BigRegion
import Derived.ChangeAlike
import Derived.Lib.Strings
import Derived.OwnWalk
import Derived.Laws.BitsAllLaws
import Derived.Deep.AppendLies
import Derived.Lib.AppendStr
import Derived.Deep.CutBlock
import Derived.Deep.DeepCutAuto
open Go.Obj renaming cells→nG
open Go.IntKind renaming i64→nH,u64→nI
open Go.Value renaming int→ng,pointer→nz,slice→nk,string→ny,tuple→nD,ownBlock→kJ,int→lT
open Go.Ending renaming returned→nE,returned→lH
open Go.Lib renaming hid→jH,extract_data→mY
open Go.Proofs.Tryz renaming prog→jI,underlying86→l8,underlying9→mR
open Go renaming World→jJ,Value→jP,Calls→jV,maxLen→j5,TypeId→ko,Oper→lX,Addr→l5,wpQuiet_nil→mJ,Program→mK
open Nat renaming le_refl→jL,le_trans→kg,lt_of_lt_of_le→kG,zero_le→kI,add_assoc→kP,lt_or_ge→lh,pow_le_pow_right→lq,add_mul→lS,mul_le_mul_right→lZ,pow_succ→l6,two_pow_add_eq_or_of_lt→mO
open Go.RowKit renaming Below→jS,Hid→jW,intOf→kW
open Go.RowKit.Below renaming refl→jT,heap_setCell→j6
open And renaming intro→jU
open List renaming getElem?_eq_getElem→jX,length_append→jY,take_succ_cons→ky,length_cons→kD,take_zero→kQ,length_drop→kS,length_take→kY,getElem?_eq_some_iff→ll,replicate→lu,append_assoc→lD,length_eq_zero_iff→mf,size_toArray→mP,cons_append→mU,drop_succ_cons→mX
open UInt8 renaming ofNat→jZ
open Bool renaming and_eq_true→j3
open Array renaming getElem?_eq_some_iff→ku,length_toList→kV,replicate→lI,getElem?_modify→lL
open ByteArray renaming size_extract→kz
open Go.World renaming setCell→kC,cell?→mW
open Go.Code renaming region→lg
open Go.Region renaming ready→lQ,binds→mr
open Go.Instr renaming makeFunc→mG
open Option.some renaming injEq→mI
namespace Go.Proofs.YtamfcjmhnndbdaaGreatDoor
set_option linter.unusedVariables false
set_option linter.unusedSimpArgs false
set_option maxRecDepth 100000
set_option maxHeartbeats 8000000
variable {a:Act}{f:FuncId}{s:ByteArray}{most:Int}
theorem nT{α:Sort _}(a:α):∃b,a=b:=⟨a,rfl⟩
theorem nK{p:Prop}(h:p:=by omega):p:=h
theorem nM{p:Prop}(h:p:=by kernel_rfl):p:=h
theorem nN{p:Prop}(h:p:=by decide):p:=h
theorem nR{p:Prop}(h:p:=by simp):p:=h
theorem nQ{p:Prop}(h:p:=by simp;omega):p:=h
theorem wL{p:Prop}(h:p:=by rw[beq_eq_false_iff_ne];omega):p:=h
theorem FL{p:Prop}(h:p:=by rw[bne_iff_ne];omega):p:=h
theorem Ty{p:Prop}(h:p:=by rw[beq_iff_eq];omega):p:=h
theorem zg{p:Prop}(h:p:=by unfold j5;omega):p:=h
theorem FM{p:Prop}(h:p:=by unfold Addr.add;split<;>simp_all):p:=h
theorem yc{p:Prop}(h:p:=by decide+kernel):p:=h
section
open Go.RowKit
def nO(w:jJ)(b:Nat)(cs:Array jP)(t:ko):Prop:=w.heap[b]? =some (nG cs t (0,0))
theorem nO.lt{w:jJ}{b:Nat}{cs:Array jP}{t:ko}(h:nO w b cs t):b<w.heap.size:=(ku.1 h).1
theorem nO.cell{w:jJ}{b:Nat}{cs:Array jP}{t:ko}(h:nO w b cs t)(i:Nat):w.cell? ⟨b,i,none⟩=cs[i]? :=by
 unfold nO at h;simp[mW,h]
theorem nO.c0{w:jJ}{b:Nat}{A:jP}{l:List jP}{t:ko}(h:nO w b (A::l).toArray t):w.cell? ⟨b,0,none⟩=some A:=h.cell 0
theorem nO.c1{w:jJ}{b:Nat}{C A:jP}{l:List jP}{t:ko}(h:nO w b (C::A::l).toArray t):w.cell? ⟨b,1,none⟩=some A:=h.cell 1
theorem nO.c2{w:jJ}{b:Nat}{C E A:jP}{l:List jP}{t:ko}(h:nO w b (C::E::A::l).toArray t):w.cell? ⟨b,2,none⟩=some A:=h.cell 2
theorem nO.c3{w:jJ}{b:Nat}{C E I A:jP}{l:List jP}{t:ko}(h:nO w b (C::E::I::A::l).toArray t):w.cell? ⟨b,3,none⟩=some A:=h.cell 3
theorem nO.c4{w:jJ}{b:Nat}{C E I J A:jP}{l:List jP}{t:ko}(h:nO w b (C::E::I::J::A::l).toArray t):w.cell? ⟨b,4,none⟩=some A:=h.cell 4
theorem nO.c5{w:jJ}{b:Nat}{C E I J N A:jP}{l:List jP}{t:ko}(h:nO w b (C::E::I::J::N::A::l).toArray t):w.cell? ⟨b,5,none⟩=some A:=h.cell 5
theorem nO.c6{w:jJ}{b:Nat}{C E I J N O A:jP}{l:List jP}{t:ko}(h:nO w b (C::E::I::J::N::O::A::l).toArray t):w.cell? ⟨b,6,none⟩=some A:=h.cell 6
theorem nO.c7{w:jJ}{b:Nat}{C E I J N O Q A:jP}{l:List jP}{t:ko}(h:nO w b (C::E::I::J::N::O::Q::A::l).toArray t):w.cell? ⟨b,7,none⟩=some A:=h.cell 7
theorem nO.free{w:jJ}{b:Nat}{cs:Array jP}{t:ko}(h:nO w b cs t)(i:Nat):w.frozen? ⟨b,i,none⟩=false:=by
 unfold nO at h;simp[World.frozen?,h]
theorem nO.a10{w:jJ}{b:Nat}{A C E I J N O Q U V:jP}{l:List jP}{t:ko}(h:nO w b (A :: C :: E :: I :: J :: N :: O :: Q :: U :: V::l).toArray t):w.cell? ⟨b,0,none⟩=some A/\w.cell? ⟨b,1,none⟩=some C/\w.cell? ⟨b,2,none⟩=some E/\w.cell? ⟨b,3,none⟩=some I/\w.cell? ⟨b,4,none⟩=some J/\w.cell? ⟨b,5,none⟩=some N/\w.cell? ⟨b,6,none⟩=some O/\w.cell? ⟨b,7,none⟩=some Q/\w.cell? ⟨b,8,none⟩=some U/\w.cell? ⟨b,9,none⟩=some V:=⟨h.cell 0,h.cell 1,h.cell 2,h.cell 3,h.cell 4,h.cell 5,h.cell 6,h.cell 7,h.cell 8,h.cell 9⟩
theorem nO.a2{w:jJ}{b:Nat}{A C:jP}{l:List jP}{t:ko}(h:nO w b (A :: C::l).toArray t):w.cell? ⟨b,0,none⟩=some A/\w.cell? ⟨b,1,none⟩=some C:=⟨h.cell 0,h.cell 1⟩
theorem nO.a3{w:jJ}{b:Nat}{A C E:jP}{l:List jP}{t:ko}(h:nO w b (A :: C :: E::l).toArray t):w.cell? ⟨b,0,none⟩=some A/\w.cell? ⟨b,1,none⟩=some C/\w.cell? ⟨b,2,none⟩=some E:=⟨h.cell 0,h.cell 1,h.cell 2⟩
theorem nO.a4{w:jJ}{b:Nat}{A C E I:jP}{l:List jP}{t:ko}(h:nO w b (A :: C :: E :: I::l).toArray t):w.cell? ⟨b,0,none⟩=some A/\w.cell? ⟨b,1,none⟩=some C/\w.cell? ⟨b,2,none⟩=some E/\w.cell? ⟨b,3,none⟩=some I:=⟨h.cell 0,h.cell 1,h.cell 2,h.cell 3⟩
theorem nO.a6{w:jJ}{b:Nat}{A C E I J N:jP}{l:List jP}{t:ko}(h:nO w b (A :: C :: E :: I :: J :: N::l).toArray t):w.cell? ⟨b,0,none⟩=some A/\w.cell? ⟨b,1,none⟩=some C/\w.cell? ⟨b,2,none⟩=some E/\w.cell? ⟨b,3,none⟩=some I/\w.cell? ⟨b,4,none⟩=some J/\w.cell? ⟨b,5,none⟩=some N:=⟨h.cell 0,h.cell 1,h.cell 2,h.cell 3,h.cell 4,h.cell 5⟩
theorem nO.b1{w:jJ}{b:Nat}{A:jP}{l:List jP}{t:ko}(h:nO w b (A::l).toArray t):w.cell? ⟨b,0,none⟩=some A/\w.frozen? ⟨b,0,none⟩=false:=⟨h.cell 0,h.free 0⟩
theorem nO.b3{w:jJ}{b:Nat}{A C E:jP}{l:List jP}{t:ko}(h:nO w b (A :: C :: E::l).toArray t):w.cell? ⟨b,0,none⟩=some A/\w.cell? ⟨b,1,none⟩=some C/\w.cell? ⟨b,2,none⟩=some E/\w.frozen? ⟨b,0,none⟩=false/\w.frozen? ⟨b,1,none⟩=false/\w.frozen? ⟨b,2,none⟩=false:=⟨h.cell 0,h.cell 1,h.cell 2,h.free 0,h.free 1,h.free 2⟩
theorem nO.b4{w:jJ}{b:Nat}{A C E I:jP}{l:List jP}{t:ko}(h:nO w b (A :: C :: E :: I::l).toArray t):w.cell? ⟨b,0,none⟩=some A/\w.cell? ⟨b,1,none⟩=some C/\w.cell? ⟨b,2,none⟩=some E/\w.cell? ⟨b,3,none⟩=some I/\w.frozen? ⟨b,0,none⟩=false/\w.frozen? ⟨b,1,none⟩=false/\w.frozen? ⟨b,2,none⟩=false/\w.frozen? ⟨b,3,none⟩=false:=⟨h.cell 0,h.cell 1,h.cell 2,h.cell 3,h.free 0,h.free 1,h.free 2,h.free 3⟩
theorem nO.b6{w:jJ}{b:Nat}{A C E I J N:jP}{l:List jP}{t:ko}(h:nO w b (A :: C :: E :: I :: J :: N::l).toArray t):w.cell? ⟨b,0,none⟩=some A/\w.cell? ⟨b,1,none⟩=some C/\w.cell? ⟨b,2,none⟩=some E/\w.cell? ⟨b,3,none⟩=some I/\w.cell? ⟨b,4,none⟩=some J/\w.cell? ⟨b,5,none⟩=some N/\w.frozen? ⟨b,0,none⟩=false/\w.frozen? ⟨b,1,none⟩=false/\w.frozen? ⟨b,2,none⟩=false/\w.frozen? ⟨b,3,none⟩=false/\w.frozen? ⟨b,4,none⟩=false/\w.frozen? ⟨b,5,none⟩=false:=⟨h.cell 0,h.cell 1,h.cell 2,h.cell 3,h.cell 4,h.cell 5,h.free 0,h.free 1,h.free 2,h.free 3,h.free 4,h.free 5⟩
theorem nO.f3{w:jJ}{b:Nat}{cs:Array jP}{t:ko}(h:nO w b cs t):w.frozen? ⟨b,0,none⟩=false/\w.frozen? ⟨b,1,none⟩=false/\w.frozen? ⟨b,2,none⟩=false:=⟨h.free 0,h.free 1,h.free 2⟩
theorem nO.f4{w:jJ}{b:Nat}{cs:Array jP}{t:ko}(h:nO w b cs t):w.frozen? ⟨b,0,none⟩=false/\w.frozen? ⟨b,1,none⟩=false/\w.frozen? ⟨b,2,none⟩=false/\w.frozen? ⟨b,3,none⟩=false:=⟨h.free 0,h.free 1,h.free 2,h.free 3⟩
theorem nO.new(w:jJ)(cs:Array jP)(t:ko):nO (w.alloc (nG cs t)) w.heap.size cs t:=heap_alloc_new w _
theorem nO.alloc{w:jJ}{b:Nat}{cs:Array jP}{t:ko}(h:nO w b cs t)(o:Obj):nO (w.alloc o) b cs t:=by
 unfold nO;rw[Below.heap_alloc w o b h.lt];exact h
theorem nO.drew{w:jJ}{b:Nat}{cs:Array jP}{t:ko}(h:nO w b cs t):nO w.drew b cs t:=h
theorem nO.set{w:jJ}{b:Nat}{cs:Array jP}{t:ko}(h:nO w b cs t)(i:Nat)(v:jP):nO (w.setCell ⟨b,i,none⟩ v) b (cs.setIfInBounds i v) t:=by
 unfold nO at*;simp only[kC];rw[lL,if_pos rfl,h];rfl
theorem nO.setOther{w:jJ}{b:Nat}{cs:Array jP}{t:ko}(h:nO w b cs t){a:l5}(A:b≠a.block)(v:jP):nO (w.setCell a v) b cs t:=by
 unfold nO;rw[j6 w a v b A];exact h
def pE(b:Nat)(w w':jJ):Prop:=w.grownBy w' (some b)
theorem pE.refl(b:Nat)(w:jJ):pE b w w:=World.grownBy.refl w _
theorem pE.trans{b:Nat}{u v w:jJ}(h:pE b u v)(k:pE b v w):pE b u w:=
 ⟨k.os.trans h.os,k.tape.trans h.tape,k.output.trans h.output,kg h.size k.size,λi hi A=>(k.block i (kG hi h.size) A).trans (h.block i hi A)⟩
theorem pE.drew{b:Nat}{u v:jJ}(h:pE b u v):pE b u v.drew:=⟨h.os,h.tape,h.output,h.size,h.block⟩
theorem pE.of{b:Nat}{w w':jJ}(h:jS w.heap.size w w'):pE b w w':=⟨h.os,h.tape,h.output,h.size,λi hi _=>h.block i hi⟩
theorem pE.alloc{b:Nat}{u v:jJ}(h:pE b u v)(o:Obj):pE b u (v.alloc o):=h.trans (pE.of ((jT _ _).alloc (jL _) o))
theorem pE.set{b:Nat}{u v:jJ}(h:pE b u v)(i:Nat)(x:jP):pE b u (v.setCell ⟨b,i,none⟩ x):=
 h.trans ⟨rfl,rfl,rfl,by simp[kC],λk _ A=>j6 _ _ _ _ (λe=>A (by rw[e]))⟩
theorem pE.Bp{b:Nat}{u v:jJ}(h:pE b u v){a:l5}(C:u.heap.size<=a.block)(x:jP):pE b u (v.setCell a x):=
 ⟨h.os,h.tape,h.output,by simpa [kC]using h.size,λk hk A=>(j6 v a x k nK).trans (h.block k hk A)⟩
theorem pE.blk{b c:Nat}{w w':jJ}{cs:Array jP}{t:ko}(h:pE b w w')(hc:nO w c cs t)(A:c≠b):nO w' c cs t:=by
 unfold nO;rw[h.block c hc.lt (by simpa using A)];exact hc
theorem pE.below{b B:Nat}{w0 w w':jJ}(h:pE b w w')(hb:jS B w0 w)(hB:B<=b)(A:B<=w.heap.size):jS B w0 w':=
 hb.grown h A λk hk=>by simp at hk;omega
theorem Below.blk{B c:Nat}{w w':jJ}{cs:Array jP}{t:ko}(h:jS B w w')(hc:nO w c cs t)(hlt:c<B):nO w' c cs t:=by
 unfold nO;rw[h.block c hlt];exact hc
theorem Calls.VS{P:mK}{args:Array jP}{w:jJ}{n:Nat}{v:jP}(h:jV P f args (w.drewN n) λe w'=>e=nE v/\w.drewN n=w'):jV P f args (w.drewN n) λe A=>e=nE v/\∃m,A=w.drewN m:=
 h.mono λ_ _ ⟨he,C⟩=>⟨he,n,C.symm⟩
theorem nO.drewN{w:jJ}{b:Nat}{cs:Array jP}{t:ko}(h:nO w b cs t)(n:Nat):nO (w.drewN n) b cs t:=h
theorem uV{P:mK}{c:Code}{Q:Exit->Act->jJ->Prop}{W:jJ}(F:jJ->Prop)(hF:F W)(h:∀w,F w->c.wp P Q a w):c.wp P Q a W:=h W hF
structure oN(b q:Nat)(w w':jJ):Prop where
 os:w'.os=w.os
 tape:w'.tape=w.tape
 output:w'.output=w.output
 size:w.heap.size<=w'.heap.size
 block:∀k,k<w.heap.size->k≠b->k≠q->w'.heap[k]? =w.heap[k]?
theorem oN.refl(b q:Nat)(w:jJ):oN b q w w:=⟨rfl,rfl,rfl,jL _,λ_ _ _ _=>rfl⟩
theorem oN.trans{b q:Nat}{u v w:jJ}(h:oN b q u v)(k:oN b q v w):oN b q u w:=
 ⟨k.os.trans h.os,k.tape.trans h.tape,k.output.trans h.output,kg h.size k.size,λi hi hb A=>(k.block i (kG hi h.size) hb A).trans (h.block i hi hb A)⟩
theorem oN.drew{b q:Nat}{u v:jJ}(h:oN b q u v):oN b q u v.drew:=⟨h.os,h.tape,h.output,h.size,h.block⟩
theorem oN.drewN{b q:Nat}{u v:jJ}(h:oN b q u v)(n:Nat):oN b q u (v.drewN n):=⟨h.os,h.tape,h.output,h.size,h.block⟩
theorem oN.Bq{b q:Nat}{u v:jJ}(h:oN b q u v)(i:Nat)(x:jP):oN b q u (v.setCell ⟨b,i,none⟩ x):=
 h.trans ⟨rfl,rfl,rfl,by simp[kC],λk _ hb _=>j6 _ _ _ _ hb⟩
theorem oN.OX{b q:Nat}{u v:jJ}(h:oN b q u v)(i:Nat)(x:jP):oN b q u (v.setCell ⟨q,i,none⟩ x):=
 h.trans ⟨rfl,rfl,rfl,by simp[kC],λk _ _ A=>j6 _ _ _ _ A⟩
theorem oN.blk{b q c:Nat}{w w':jJ}{cs:Array jP}{t:ko}(h:oN b q w w')(hc:nO w c cs t)(hb:c≠b)(A:c≠q):nO w' c cs t:=by
 unfold nO;rw[h.block c hc.lt hb A];exact hc
theorem oN.upd{b q:Nat}{u w w':jJ}(h:oN b q w w')(A:pE b u w)(E:u.heap.size<=q):pE b u w':=
 ⟨h.os.trans A.os,h.tape.trans A.tape,h.output.trans A.output,kg A.size h.size,λk hk C=>
  (h.block k (kG hk A.size) (by simpa using C) nK).trans (A.block k hk C)⟩
theorem pE.drewN{b:Nat}{u v:jJ}(h:pE b u v)(n:Nat):pE b u (v.drewN n):=⟨h.os,h.tape,h.output,h.size,h.block⟩
def nU(l:List UInt8):List jP:=l.map λb=> ng .u8 (b.toNat:Int)
@[simp] theorem qW (l:List UInt8):(nU l).length=l.length:=by simp[nU]
theorem pg(l m:List UInt8):nU (l++m)=nU l++nU m:=by simp[nU]
def oD(w:jJ)(B:Nat)(e:ko)(v:jP)(l:List UInt8):Prop:=w.ownsRow B e 1 v l.length (nU l)
structure ql(P:mK)(t e s:ko):Prop where
 ht:P.underlying t=some (.slice e)
 he:P.underlying e=some (.int .u8)
 hs:P.underlying s=some .string
 hi:(P.info? e).map (λi=>(i.zero,i.size,i.bytes))=some (some (ng .u8 0),1,1)
section
variable {P:mK}{t e s:ko}
theorem oD.nil(w:jJ)(B:Nat)(e:ko):oD w B e (nk none 0 0) []:=World.ownsRow_nil w B e 1
theorem oD.made(w:jJ)(B:Nat)(e:ko)(A:Array jP)(cap:Nat)(hb:B<=w.heap.size)(C:cap<=j5)(hs:A.size=cap):
  oD (w.alloc (nG A e)) B e (nk (some ⟨w.heap.size,0,none⟩) 0 cap) []:=World.ownsRow_made w A cap hb C (by simpa using hs)
theorem oD.drew{w:jJ}{B:Nat}{v:jP}{l:List UInt8}(h:oD w B e v l):oD w.drew B e v l:=World.ownsRow.drew h
theorem oD.alloc{w:jJ}{B:Nat}{v:jP}{l:List UInt8}(h:oD w B e v l)(o:Obj):oD (w.alloc o) B e v l:=World.ownsRow.alloc h o
theorem oD.below{w w':jJ}{B:Nat}{v:jP}{l:List UInt8}(h:oD w B e v l)(hb:jS w.heap.size w w'):oD w' B e v l:=by
 obtain⟨I,A⟩:=h;refine⟨I,?_⟩;rcases A with A|⟨g,cap,C,J,hg,E,r⟩
 .exact .inl A
 .refine .inr ⟨g,cap,C,J,hg,?_,r⟩
  rw[hb.block g (ku.1 E).1];exact E
theorem Ri{p:Prop}(h:p:=by
 rw[run_convert_bytes_string w t s e _ _ _ T.ht T.he T.hs];simp[Conv.bytesToString,ByteArray.empty,ByteArray.emptyWithCapacity];rfl):p:=h
theorem oD.string{w:jJ}{B:Nat}{v:jP}{l:List UInt8}(T:ql P t e s)(h:oD w B e v l):
  (convert t s v).run P w=.ok (ny ⟨l.toArray⟩) w:=by
 rcases h.2 with⟨rfl,h0⟩|⟨g,cap,E,rfl,hb,hg,A,I,hsz,htake⟩
 .have:l=[]:=mf.1 h0
  subst this;exact Ri
 .refine run_convert_bytes_back w t s e ⟨g,0,none⟩ cap l T.ht T.he T.hs λj C=> ?_
  have:=World.ownsRow.cells h (g:=g) rfl j (ng .u8 (l[j].toNat:Int)) (by simp[nU,jX C]);exact this
theorem FN(T:ql P t e s)(w:jJ)(l:List UInt8)(cs:Array jP)(n:Nat)(hn:n=l.length)(A:cs.toList=nU l)(C:n<=j5):
  (convert t s (nk (some ⟨w.heap.size,0,none⟩) n n)).run P (w.alloc (nG cs e))=.ok (ny ⟨l.toArray⟩) (w.alloc (nG cs e)):=by
 subst hn;have:oD (w.alloc (nG cs e)) 0 e (nk (some ⟨w.heap.size,0,none⟩) l.length l.length) l:=by
  have:=World.ownsRow_lit (base:=0) (e:=e) (size:=1) w cs l.length (kI _) C (by
   have:=congrArg List.length A;simpa using this)
  rw[A]at this;exact this
 exact this.string T
theorem rM(l:List UInt8):∀u∈nU l,u.oneCell'=true:=by
 intro u A;simp[nU]at A;obtain⟨b,_,rfl⟩:=A;rfl
theorem oP(T:ql P t e s){ops:Array lX}{rest:List lX}{o:lX}{Q:Exit->Act->jJ->Prop}(E:o.guard=none)(x y:Operand)(ho:o.op=.call {callee:=.builtin .append,args:=#[x,y],argTypes:=#[t,t]})(B:Nat)(v:jP)(l m:List UInt8)(k:Nat)(hk:k=m.length)(w:jJ)(cs:Array jP)(I:cs.toList=nU m)(V:a.eval x=v)(A:oD w B e v l)(Y:a.eval y=nk (some ⟨w.heap.size,0,none⟩) k k)(hlen:l.length+k<=140737488355328)(hB:B<=w.heap.size)(h:∀v' w',oD w' B e v' (l++m)->jS B w w'->w.heap.size<w'.heap.size->wpList P ops Q rest (a.put o.dst v') w'):
  wpList P ops Q (o::rest) a (w.alloc (nG cs e)):=by
 subst hk;obtain⟨Z,hi,J,N,O⟩:=info_parts T.hi
 refine wpList_append_own _ E x y t ho B e Z (ng .u8 0) 1 1 T.ht hi J N O rfl nN v l.length (nU l) V (A.alloc _)
  ⟨w.heap.size,0,none⟩ m.length m.length (nU m) Y nR ?_ (rM m) zg nK nQ ?_
 .intro j u C
  have e1:(⟨w.heap.size,0,none⟩:l5).add j=⟨w.heap.size,j,none⟩:=FM;rw[e1,World.cell?_alloc_mark w cs e (0,0) j,<-C,<-I,Array.getElem?_toList]
 .intro v' w' aa U _
  refine h v' w' ?_ ?_ ?_
  .show w'.ownsRow B e 1 v' (l++m).length (nU (l++m))
   rw[jY,pg];exact aa
  .refine((jT B w).alloc hB _).grown U nQ λj C=> ?_
   exact(World.ownsRow.lt A j C).1
  .have:=U.size;simp at this;omega
end
structure sM(w:jJ) where
 at_:jJ
 is:jS w.heap.size w at_
instance(w:jJ):Nonempty (sM w):=⟨⟨w,jT _ _⟩⟩
def After(w:jJ):jJ->Prop:=λw'=>jS w.heap.size w w'
theorem After.trans{a b c:jJ}(h:After a b)(k:After b c):After a c:=Below.trans h (Below.mono k h.size)
theorem oC{P:mK}{id:Nat}{Q:Exit->Act->jJ->Prop}{w:jJ}{l:List lX}(E:P.follows .mixedOrders=true)(hB:Region.lexB .any l.toArray=true)(h:wpQuiet P l.toArray (λw'=>∃x:sM w,w'=x.at_) (λA=>∀x:sM w,Q .normal A x.at_) l a):(lg id l.toArray true).wp P Q a w:=by
 refine wp_region_quiet (C:=λw'=>∃x:sM w,w'=x.at_) E hB ⟨⟨_,(jT _ _).drew⟩,rfl⟩ ?_;have e:(λA:Act=>∀w',(∃x:sM w,w'=x.at_)->Q .normal A w')=λA=>∀x:sM w,Q .normal A x.at_:=by
  funext A;exact propext ⟨λh x=>h _ ⟨x,rfl⟩,λh w' ⟨x,I⟩=>I▸h x⟩
 rw[e];simpa using h
theorem Calls.after{P:mK}{args:Array jP}{w:jJ}{x:sM w}{v:jP}(h:jV P f args x.at_ λe w'=>e=nE v/\jS x.at_.heap.size x.at_ w'):jV P f args x.at_ λe A=>e=nE v/\∃y:sM w,A=y.at_:=
 h.mono λ_ w' ⟨he,C⟩=>⟨he,⟨w',After.trans x.is C⟩,rfl⟩
theorem size_mk(l:List UInt8):(⟨l.toArray⟩:ByteArray).size=l.length:=mP
theorem zu(n:Nat)(h:n<256):(jZ n).toNat=n:=by
 show n % 256=n;exact Nat.mod_eq_of_lt h
theorem yf{x:Int}{n:Nat}(A:x=(n:Int))(h:n<256):[lT .u8 x]=nU [jZ n]:=by
 subst A;simp[nU,zu n h]
section
variable {P:mK}{ops:Array lX}{md:Region.Mode}{C:jJ->Prop}
def LY(P:mK)(md:Region.Mode)(ops:Array lX)(C:jJ->Prop)(n:Nat)(L:Array Bool->Act->Prop):Nat->Array Bool->Act->Prop
 |0,A,a=>L A a
 |f+1,A,a=>lQ md ops A≠[]/\∀i∈lQ md ops A,i<n/\qOp P ops C i (LY P md ops C n L f (A.setIfInBounds i true)) a
theorem Ce{n g:Nat}{L:Array Bool->Act->Prop}{Q:Exit->Act->jJ->Prop}(hL:∀A a w,C w->L A a->wpAny P md ops Q g A a w):
  ∀(f:Nat)(A:Array Bool)(a:Act)(w:jJ),C w->LY P md ops C n L f A a->wpAny P md ops Q (f+g) A a w
 |0,A,a,w,E,h=>by rw[Nat.zero_add];exact hL _ _ _ E h
 |f+1,A,a,w,E,h=>by
  rw[show f+1+g=(f+g)+1 by omega];exact⟨λh0=>absurd h0 h.1,λi hi=>wpOp_of_qOp E (λJ w' I N=>Ce hL f _ J w' I N) (h.2 i hi).2⟩
theorem Rj{p:Prop}(h:p:=by
 rcases lh j n with h|h
 .exact h
 .exact absurd hj (tail_waits hs hc hn inv _ i rfl hin hun j h)):p:=h
theorem LZ{n i:Nat}{oi:lX}{v:jP}{L:Array Bool->Act->Prop}(hi:ops[i]? =some oi)(Q:∀(j:Nat) (o:lX) cs b,ops[j]? =some o->o.op≠.select cs b)(hs:Region.sinkB md ops n=true)(hc:Region.chainB md ops n=true)(hn:n<ops.size)(hin:i<n)(hdone:∀A a,L A a->∀j∈lQ md ops A,n<=j):
  ∀(f:Nat)(A:Array Bool)(a:Act),HeadInv md ops n A->
   (∀j J,ops[j]? =some J->j≠i->A.getD j true=false->(∀e∈J.after,mr md e=true->e.on≠i)->oi.apart ops J=true)->
   i∈lQ md ops A->YieldsIn P ops C oi v a->
   LY P md ops C n L f (A.setIfInBounds i true) (a.put oi.dst v)->LY P md ops C n L (f+1) A a:=by
 intro f;induction f with
 |zero=>
  intro A a inv _ I Z H;have hun:=(mem_ready.1 I).1;refine⟨λh=>(by rw[h]at I;cases I),λj hj=> ?_⟩;have N:j<n:=by
   exact Rj
  refine⟨N,?_⟩;by_cases E:j=i;.subst E;exact Z.qOp hi H
  .have:=hdone _ _ H j (ready_mono hj E)
   omega
 |succ f au=>
  intro A a inv O I Z H;have hun:=(mem_ready.1 I).1;refine⟨λh=>(by rw[h]at I;cases I),λj hj=> ?_⟩;have N:j<n:=by
   exact Rj
  refine⟨N,?_⟩;by_cases E:j=i;.subst E;exact Z.qOp hi H
  .have aa:=(H.2 j (ready_mono hj E)).2
   obtain⟨U,J,V,af⟩:=mem_ready.1 hj;have ag:∀e∈J.after,mr md e=true->e.on≠i:=λe he hb ah=>by
    have aa:=af e he hb;rw[ah,getD_both hun]at aa;cases aa
   have av:=qOp_put V (O j J V E U ag) (λcs b=>Q i oi cs b hi) (λcs b=>Q j J cs b V) Z aa
   have Y:∀k ok,ops[k]? =some ok->k≠i->(A.setIfInBounds j true).getD k true=false->
     (∀e∈ok.after,mr md e=true->e.on≠i)->oi.apart ops ok=true:=λk ok hk ai hun aj=>by
    refine O k ok hk ai ?_ aj;by_cases ae:j=k;.subst ae;exact U
    .rw[getD_set_ne true ae]at hun;exact hun
   refine qOp_mono (λax ak=>au (A.setIfInBounds j true) ax (inv.set hj N) Y (ready_mono I (Ne.symm E)) ak.1 ?_) av;rw[Array.setIfInBounds_comm _ _ E];exact ak.2
theorem I7{n g:Nat}{O:Act->Prop}(I:Region.noSelect ops=true)(hs:Region.sinkB md ops n=true)(hc:Region.chainB md ops n=true)(hn:n<ops.size):
  ∀(l:List lX)(k:Nat)(A:Array Bool)(a:Act),(∀j,j<l.length->l[j]? =ops[k+j]?)->k+l.length=n->HeadInv md ops n A->
  Region.lexHead md ops g l.length k A=true->wpQuiet P ops C O l a->
  LY P md ops C n (λE Q=>Region.seqB md ops g n E=true/\O Q) l.length A a
 |[],k,A,a,_,hk,_,hB,h=>by
  have:k=n:=by simpa using hk
  subst this;exact⟨by simpa [Region.lexHead]using hB,h⟩
 |o::l,k,A,a,hl,hk,inv,hB,h=>by
  have h0:ops[k]? =some o:=by simpa using(hl 0 nR).symm
  simp only[kD,Region.lexHead,j3]at hB;obtain⟨⟨V,Y⟩,U⟩:=hB;have J:k<n:=by simp only[kD]at hk;omega
  have N:k∈lQ md ops A:=by simpa using V
  have hst:qOp P ops C k (wpQuiet P ops C O l) a:=by unfold qOp;simp only[h0];exact h
  obtain⟨v,Z,aa⟩:=yieldsIn_of_qOp h0 hst
  exact LZ h0 (Region.noSelect_spec I) hs hc hn J (λE Q hL=>seqB_ready hL.1) l.length A a inv (Region.free_spec h0 Y) N Z
   (I7 I hs hc hn l (k+1) _ _ (λj ae=>by have:=hl (j+1) nQ;simpa [kP,Nat.add_comm 1 j]using this) (by simp only[kD]at hk;omega) (inv.set N J) U aa)
theorem vH{id:Nat}{Q:Exit->Act->jJ->Prop}{w:jJ}{l:List lX}(n:Nat)(Z:P.follows .mixedOrders=true)(hB:Region.lexTailB .any l.toArray n=true)(aa:C {w with drawn:=w.drawn+1})(h:wpQuiet P l.toArray C (λI=>∀w',C w'->wpList P l.toArray Q (l.drop n) I w') (l.take n) a):(lg id l.toArray true).wp P Q a w:=by
 simp only[Region.lexTailB,j3,decide_eq_true_eq]at hB;obtain⟨⟨⟨⟨J,hn⟩,hs⟩,hc⟩,N⟩:=hB;have ae:n<l.length:=by simpa using hn
 have htl:(l.take n).length=n:=nQ;have E:(l.drop n).length=l.toArray.size - n:=nR
 have O:HeadInv .any l.toArray n (lI l.toArray.size false):=
  ⟨nR,λj af _ hl=>(by rw[getD_replicate_false]at hl;cases hl),λt _ ht=>getD_in (by simpa using ht) (getD_replicate_false _ _)⟩
 have H:=I7 (md:=.any) (C:=C) (g:=l.toArray.size - n) J hs hc hn (l.take n) 0 _ a (λj U=>by
  have V:j<n:=by rw[htl]at U;exact U
  simp[V]) (by simpa using htl) O (by rw[htl];exact N) h
 refine wp_region_any Z ?_;have:=Ce (Q:=Q) (g:=l.toArray.size - n) (λA I w' Y hL=>by
  have:=wpAny_of_seq (md:=.any) (Q':=Q) (l.drop n) n A I w' (λj=>by simp[List.getElem?_drop]) (by rw[E];exact hL.1) (hL.2 w' Y);rwa [E]at this) _ _ _ _ aa H
 rw[htl,show n+(l.toArray.size - n)=l.toArray.size by omega]at this;exact this
theorem vI{id:Nat}{Q:Exit->Act->jJ->Prop}{w:jJ}{l:List lX}(n:Nat)(E:P.follows .mixedOrders=true)(hB:Region.lexTailB .any l.toArray n=true)(h:wpQuiet P l.toArray (λw'=>∃x:sM w,w'=x.at_) (λA=>∀x:sM w,wpList P l.toArray Q (l.drop n) A x.at_) (l.take n) a):(lg id l.toArray true).wp P Q a w:=by
 refine vH (C:=λw'=>∃x:sM w,w'=x.at_) n E hB ⟨⟨_,(jT _ _).drew⟩,rfl⟩ ?_;have e:(λA:Act=>∀w',(∃x:sM w,w'=x.at_)->wpList P l.toArray Q (l.drop n) A w')=λA=>∀x:sM w,wpList P l.toArray Q (l.drop n) A x.at_:=by
  funext A;exact propext ⟨λh x=>h _ ⟨x,rfl⟩,λh w' ⟨x,I⟩=>I▸h x⟩
 rw[e];exact h
theorem pQ{id:Nat}{Q:Exit->Act->jJ->Prop}{w:jJ}{l:List lX}(n:Nat)(E:P.follows .mixedOrders=true)(hB:Region.lexTailB .any l.toArray n=true)(h:wpQuiet P l.toArray (λw'=>∃k,w'=w.drewN k) (λA=>∀k,wpList P l.toArray Q (l.drop n) A (w.drewN k)) (l.take n) a):(lg id l.toArray true).wp P Q a w:=by
 refine vH (C:=λw'=>∃k,w'=w.drewN k) n E hB ⟨1,rfl⟩ ?_;have e:(λA:Act=>∀w',(∃k,w'=w.drewN k)->wpList P l.toArray Q (l.drop n) A w')=λA=>∀k,wpList P l.toArray Q (l.drop n) A (w.drewN k):=by
  funext A;exact propext ⟨λh k=>h _ ⟨k,rfl⟩,λh w' ⟨k,hk⟩=>hk▸h k⟩
 rw[e];exact h
end
structure RS where
 t:ByteArray
 p:Nat
 f:Int
def RS.cs(r:RS):Array jP:=#[ny r.t,ng nH r.p,ng nH r.f]
def RS.Ok(r:RS):Prop:=r.p<=r.t.size/\r.t.size<=9223372036854775807
def wo(w:jJ)(b:Nat)(r:RS):Prop:=nO w b r.cs 220
theorem VT(b A C q:Nat)(n:Int)(w:jJ)(h0:n<0)(hn:w.cell? ⟨A,0,none⟩=some (ng nH n)):
  jV jI 184 #[nz (some ⟨A,0,none⟩),nz (some ⟨C,0,none⟩),nz (some ⟨q,0,none⟩)] w λe w'=>e=nE (ng nH 1)/\w=w':=by
 go_in;go_wp2;go_returns;exact⟨rfl,rfl⟩
theorem Tz(b A C q:Nat)(t:ByteArray)(p:Nat)(f n:Int)(w:jJ)(hp:p<=t.size)(ht:t.size<=9223372036854775807)(h0:0<=n)(E:(t.size:Int) - p<n)(hb:nO w b (RS.cs ⟨t,p,f⟩) 220)(hn:w.cell? ⟨A,0,none⟩=some (ng nH n))(I:w.cell? ⟨C,0,none⟩=some (nz (some ⟨b,0,none⟩))):
  jV jI 184 #[nz (some ⟨A,0,none⟩),nz (some ⟨C,0,none⟩),nz (some ⟨q,0,none⟩)] w λe w'=>e=nE (ng nH 2)/\∃k,w'=w.drewN k:=by
 have c0:=hb.cell 0;have c1:=hb.cell 1;simp[RS.cs]at c0 c1;have J:decide (n<0)=false:=by simpa using h0
 go_in;go_wp2;go_quiet (fail);go_wp2;go_returns;exact⟨rfl,_,rfl⟩
theorem a0c(b C E q:Nat)(t:ByteArray)(p m:Nat)(f:Int)(w:jJ)(ht:t.size<=9223372036854775807)(U:p+m<=t.size)(A:q≠b)(J:E≠q)(N:C≠q)(hb:nO w b (RS.cs ⟨t,p,f⟩) 220)(I:nO w q #[ny ⟨#[]⟩] 9)(hn:w.cell? ⟨C,0,none⟩=some (ng nH m))(V:w.cell? ⟨E,0,none⟩=some (nz (some ⟨b,0,none⟩))):
  jV jI 184 #[nz (some ⟨C,0,none⟩),nz (some ⟨E,0,none⟩),nz (some ⟨q,0,none⟩)] w λe w'=>e=nE (ng nH 0)/\oN b q w w'/\
   nO w' b (RS.cs ⟨t,p+m,f⟩) 220/\nO w' q #[ny (t.extract p (p+m))] 9:=by
 have c0:=hb.cell 0;have c1:=hb.cell 1;have f1:=hb.free 1;have O:=I.cell 0;have Y:=I.free 0;simp[RS.cs]at c0 c1 O;have Z:decide ((m:Int)<0)=false:=nR;have aa:decide ((t.size:Int) - p<m)=false:=nQ;go_in;go_wp2;go_quiet (fail);go_wp2;refine pQ 15 nM nM ?_;simp only[ky,kQ,mX,List.drop_zero];repeat(go_big_quiet_step (fail))
 refine mJ ?_;intro Q;go_wp2;refine pQ 8 nM nM ?_;simp only[ky,kQ,mX,List.drop_zero];repeat(go_big_quiet_step (fail))
 refine mJ ?_;intro ae;go_wp2;go_returns;exact⟨rfl,((((oN.refl b q w).drewN _).OX 0 _).Bq 1 _).drewN _,((hb.drewN _).setOther (Ne.symm A) _).set 1 _,((I.drewN _).set 0 _).setOther A _⟩
theorem TA(b A q:Nat)(t:ByteArray)(p:Nat)(f:Int)(w:jJ)(ht:t.size<=9223372036854775807)(hp:p<=t.size)(C:t.size<=p)(hb:nO w b (RS.cs ⟨t,p,f⟩) 220)(E:w.cell? ⟨A,0,none⟩=some (nz (some ⟨b,0,none⟩))):
  jV jI 259 #[nz (some ⟨A,0,none⟩),nz (some ⟨q,0,none⟩)] w λe w'=>e=nE (ng nH 2)/\∃k,w'=w.drewN k:=by
 have c0:=hb.cell 0;have c1:=hb.cell 1;simp[RS.cs]at c0 c1;go_in;go_wp2;go_quiet (fail);go_wp2;go_returns;exact⟨rfl,_,rfl⟩
theorem a0d(b C q:Nat)(t:ByteArray)(p:Nat)(f:Int)(w:jJ)(ht:t.size<=9223372036854775807)(N:p<t.size)(A:q≠b)(I:C≠q)(hb:nO w b (RS.cs ⟨t,p,f⟩) 220)(E:nO w q #[ng .u8 0] 5)(O:w.cell? ⟨C,0,none⟩=some (nz (some ⟨b,0,none⟩))):
  jV jI 259 #[nz (some ⟨C,0,none⟩),nz (some ⟨q,0,none⟩)] w λe w'=>e=nE (ng nH 0)/\oN b q w w'/\
   nO w' b (RS.cs ⟨t,p+1,f⟩) 220/\nO w' q #[ng .u8 (t[p].toNat:Int)] 5:=by
 have c0:=hb.cell 0;have c1:=hb.cell 1;have f1:=hb.free 1;have J:=E.cell 0;have Q:=E.free 0;simp[RS.cs]at c0 c1 J;go_in;go_wp2;go_quiet (fail);go_wp2;refine pQ 9 nM nM ?_;simp only[ky,kQ,mX,List.drop_zero];repeat(go_big_quiet_step (fail))
 refine mJ ?_;intro U;go_wp2;go_returns;exact⟨rfl,(((oN.refl b q w).drewN _).OX 0 _).Bq 1 _,((hb.drewN _).setOther (Ne.symm A) _).set 1 _,((E.drewN _).set 0 _).setOther A _⟩
theorem OY(b A C q:Nat)(n:Int)(w:jJ)(h0:¬0<n)(hn:w.cell? ⟨A,0,none⟩=some (ng nH n)):
  jV jI 270 #[nz (some ⟨A,0,none⟩),nz (some ⟨C,0,none⟩),nz (some ⟨q,0,none⟩)] w λe w'=>e=nE (ng nH 0)/\w=w':=by
 go_in;go_wp2;go_returns;exact⟨rfl,rfl⟩
theorem VU(b C E q:Nat)(t:ByteArray)(p m:Nat)(f n:Int)(w:jJ)(ht:t.size<=9223372036854775807)(hp:p<=t.size)(h0:0<n)(J:m=min n.toNat (t.size - p))(I:q≠b)(hb:nO w b (RS.cs ⟨t,p,f⟩) 220)(A:nO w q #[ny ⟨#[]⟩] 9)(hn:w.cell? ⟨C,0,none⟩=some (ng nH n))(U:w.cell? ⟨E,0,none⟩=some (nz (some ⟨b,0,none⟩))):
  jV jI 270 #[nz (some ⟨C,0,none⟩),nz (some ⟨E,0,none⟩),nz (some ⟨q,0,none⟩)] w λe w'=>e=nE (ng nH 0)/\oN b q w w'/\
   nO w' b (RS.cs ⟨t,p,f⟩) 220/\nO w' q #[ny (t.extract p (p+m))] 9:=by
 have c0:=hb.cell 0;have c1:=hb.cell 1;have N:=A.cell 0;have V:=A.free 0;simp[RS.cs]at c0 c1 N;have O:(if(t.size:Int) - p<n then(t.size:Int) - p else n)=(m:Int):=by split<;>omega
 have Q:p+m<=t.size:=nK;clear J;go_in;go_wp2;refine pQ 26 nM nM ?_;simp only[ky,kQ,mX,List.drop_zero];repeat(go_big_quiet_step (fail))
 refine mJ ?_;intro k;go_wp2;go_returns;exact⟨rfl,((oN.refl b q w).drewN _).OX 0 _,(hb.drewN _).setOther (Ne.symm I) _,(A.drewN _).set 0 _⟩
theorem TB(A:Nat)(x:Int)(w:jJ)(hn:w.cell? ⟨A,0,none⟩=some (ng nH x)):
  jV jI 225 #[nz (some ⟨A,0,none⟩)] w λe w'=>e=nE (ng nH x)/\w=w':=by
 go_in;go_wp2;go_returns;exact⟨rfl,rfl⟩
theorem Cf(b:Nat)(r:RS)(v:jP)(w:jJ)(A:((r.f:Int)==0)=false)(hb:wo w b r):
  jV jI 183 #[nz (some ⟨b,0,none⟩),v] w λe w'=>e=nE (nD #[])/\w=w':=by
 obtain⟨t,p,f⟩:=r;have c2:=nO.cell hb 2;simp[RS.cs]at c2;simp only at A;go_in;go_wp2;go_returns;exact⟨rfl,rfl⟩
theorem Br(b q:Nat)(t:ByteArray)(p C:Nat)(x:Int)(cf:Array jP)(R:jJ->Prop)(w:jJ)(hb:wo w b ⟨t,p,0⟩)(E:∀w i v,R w->R (w.setCell ⟨b,i,none⟩ v))(I:jV jI 184 cf w λe w'=>e=nE (ng nH x)/\oN b q w w'/\wo w' b ⟨t,C,0⟩/\R w'):
  jV jI 183 #[nz (some ⟨b,0,none⟩),.func (.func 184) #[] cf] w λe w'=>e=nE (nD #[])/\oN b q w w'/\wo w' b ⟨t,C,x⟩/\R w':=by
 have c2:=nO.cell hb 2;simp[RS.cs]at c2;have N:=jH I;have O:=jH E;clear I E;go_in;go_wp2_with fail;refine N.mono ?_;rintro e w1 ⟨rfl,Q,A,J⟩;have U:=nO.cell A 2;have f2:=nO.free A 2;simp[RS.cs]at U;go_wp2_with fail;go_returns;exact⟨rfl,Q.Bq 2 _,nO.set A 2 _,O _ _ _ J⟩
theorem FO(b q:Nat)(t:ByteArray)(p C:Nat)(x:Int)(cf:Array jP)(R:jJ->Prop)(w:jJ)(hb:wo w b ⟨t,p,0⟩)(E:∀w i v,R w->R (w.setCell ⟨b,i,none⟩ v))(I:jV jI 259 cf w λe w'=>e=nE (ng nH x)/\oN b q w w'/\wo w' b ⟨t,C,0⟩/\R w'):
  jV jI 183 #[nz (some ⟨b,0,none⟩),.func (.func 259) #[] cf] w λe w'=>e=nE (nD #[])/\oN b q w w'/\wo w' b ⟨t,C,x⟩/\R w':=by
 have c2:=nO.cell hb 2;simp[RS.cs]at c2;have N:=jH I;have O:=jH E;clear I E;go_in;go_wp2_with fail;refine N.mono ?_;rintro e w1 ⟨rfl,Q,A,J⟩;have U:=nO.cell A 2;have f2:=nO.free A 2;simp[RS.cs]at U;go_wp2_with fail;go_returns;exact⟨rfl,Q.Bq 2 _,nO.set A 2 _,O _ _ _ J⟩
theorem Es(b q:Nat)(t:ByteArray)(p C:Nat)(x:Int)(cf:Array jP)(R:jJ->Prop)(w:jJ)(hb:wo w b ⟨t,p,0⟩)(E:∀w i v,R w->R (w.setCell ⟨b,i,none⟩ v))(I:jV jI 270 cf w λe w'=>e=nE (ng nH x)/\oN b q w w'/\wo w' b ⟨t,C,0⟩/\R w'):
  jV jI 183 #[nz (some ⟨b,0,none⟩),.func (.func 270) #[] cf] w λe w'=>e=nE (nD #[])/\oN b q w w'/\wo w' b ⟨t,C,x⟩/\R w':=by
 have c2:=nO.cell hb 2;simp[RS.cs]at c2;have N:=jH I;have O:=jH E;clear I E;go_in;go_wp2_with fail;refine N.mono ?_;rintro e w1 ⟨rfl,Q,A,J⟩;have U:=nO.cell A 2;have f2:=nO.free A 2;simp[RS.cs]at U;go_wp2_with fail;go_returns;exact⟨rfl,Q.Bq 2 _,nO.set A 2 _,O _ _ _ J⟩
theorem OZ(b q:Nat)(t:ByteArray)(p C:Nat)(x:Int)(cf:Array jP)(R:jJ->Prop)(w:jJ)(hb:wo w b ⟨t,p,0⟩)(E:∀w i v,R w->R (w.setCell ⟨b,i,none⟩ v))(I:jV jI 225 cf w λe w'=>e=nE (ng nH x)/\pE b w w'/\wo w' b ⟨t,C,0⟩/\R w'):
  jV jI 183 #[nz (some ⟨b,0,none⟩),.func (.func 225) #[] cf] w λe w'=>e=nE (nD #[])/\pE b w w'/\wo w' b ⟨t,C,x⟩/\R w':=by
 have c2:=nO.cell hb 2;simp[RS.cs]at c2;have N:=jH I;have O:=jH E;clear I E;go_in;go_wp2_with fail;refine N.mono ?_;rintro e w1 ⟨rfl,Q,A,J⟩;have U:=nO.cell A 2;have f2:=nO.free A 2;simp[RS.cs]at U;go_wp2_with fail;go_returns;exact⟨rfl,Q.set 2 _,nO.set A 2 _,O _ _ _ J⟩
abbrev uF:ByteArray:=⟨#[]⟩
def RS.of(t:ByteArray):RS:=⟨t,0,0⟩
def RS.take(r:RS)(n:Int):RS×ByteArray:=
 if r.f=0 then
  if n<0 then(⟨r.t,r.p,1⟩,uF)else if(r.t.size:Int) - r.p<n then(⟨r.t,r.p,2⟩,uF)else(⟨r.t,r.p+n.toNat,0⟩,r.t.extract r.p (r.p+n.toNat))
 else(r,uF)
def RS.byte(r:RS):RS×Int:=
 if r.f=0 then if h:r.p<r.t.size then(⟨r.t,r.p+1,0⟩,(r.t[r.p].toNat:Int))else(⟨r.t,r.p,2⟩,0)else(r,0)
def RS.ahead(r:RS)(n:Int):ByteArray:=
 if r.f=0 then if 0<n then r.t.extract r.p (r.p+min n.toNat (r.t.size - r.p))else uF else uF
def RS.fail(r:RS)(x:Int):RS:=if r.f=0 then⟨r.t,r.p,x⟩else r
theorem RS.Ok.of{t:ByteArray}(h:t.size<=9223372036854775807):(RS.of t).Ok:=⟨kI _,h⟩
theorem RS.Ok.take{r:RS}(h:r.Ok)(n:Int):(r.take n).1.Ok:=by
 obtain⟨C,A⟩:=h;unfold RS.take;split
 .split
  .exact⟨C,A⟩
  .split
   .exact⟨C,A⟩
   .exact⟨by simp only[];omega,A⟩
 .exact⟨C,A⟩
theorem RS.Ok.byte{r:RS}(h:r.Ok):r.byte.1.Ok:=by
 obtain⟨C,A⟩:=h;unfold RS.byte;split
 .split
  .exact⟨by simp only[];omega,A⟩
  .exact⟨C,A⟩
 .exact⟨C,A⟩
theorem RS.Ok.fail{r:RS}(h:r.Ok)(x:Int):(r.fail x).Ok:=by
 obtain⟨A,C⟩:=h;unfold RS.fail;split<;>exact⟨A,C⟩
def zw(b:Nat)(w:jJ)(r:RS)(v:jP):Ending->jJ->Prop:=λe w'=>e=nE v/\pE b w w'/\wo w' b r
theorem zx(t:ByteArray)(w:jJ):
  jV jI 144 #[ny t] w λe w'=>e=nE (nz (some ⟨w.heap.size,0,none⟩))/\jS w.heap.size w w'/\w.heap.size<w'.heap.size/\wo w' w.heap.size (RS.of t):=by
 go_in;go_wp2;go_returns;exact⟨rfl,(jT _ _).alloc (jL _) _,nR,nO.new _ _ _⟩
theorem TC(b:Nat)(r:RS)(w:jJ)(hb:wo w b r):
  jV jI 212 #[nz (some ⟨b,0,none⟩)] w λe w'=>e=nE (ng nH r.p)/\w=w':=by
 obtain⟨t,p,f⟩:=r;have c:=nO.cell hb 1;simp[RS.cs]at c;go_in;go_wp2;go_returns;exact⟨rfl,rfl⟩
theorem qc(b:Nat)(r:RS)(w:jJ)(hb:wo w b r):
  jV jI 146 #[nz (some ⟨b,0,none⟩)] w λe w'=>e=nE (ng nH r.f)/\w=w':=by
 obtain⟨t,p,f⟩:=r;have c:=nO.cell hb 2;simp[RS.cs]at c;go_in;go_wp2;go_returns;exact⟨rfl,rfl⟩
theorem Et(b:Nat)(r:RS)(w:jJ)(A:r.Ok)(hb:wo w b r):
  jV jI 189 #[nz (some ⟨b,0,none⟩)] w λe w'=>e=nE (ng nH ((r.t.size:Int) - r.p))/\∃k,w'=w.drewN k:=by
 obtain⟨t,p,f⟩:=r;obtain⟨C,E⟩:=A;simp only at C E;have c0:=nO.cell hb 0;have c1:=nO.cell hb 1;simp[RS.cs]at c0 c1;go_in;go_wp2;go_quiet (fail);go_wp2;go_returns;exact⟨rfl,_,rfl⟩
theorem Bt{p:Prop}(h:p:=by
 rw[hw3]at HH hu3;have q0:=r2.cell 0;rw[hw3]at q0;clear r2 hb3;go_in;go_wp2_with fail;refine HH.mono ?_;rintro e w4 ⟨rfl,hu4,hb4,hq4⟩;have q4:=hq4.cell 0;simp at q4;go_wp2_with fail;go_returns;exact⟨rfl,hu4.upd hu3 nK,hb4⟩):p:=h
theorem J4{p:Prop}(h:p:=by
 go_in;go_wp2_with fail;refine(HH _).mono ?_;rintro e w4 ⟨rfl,rfl⟩;go_wp2_with fail;go_returns;exact⟨rfl,hu3,hb3⟩):p:=h
theorem VV{p:Prop}(h:p:=by
 rw[hw3];have:=nO.new ((w.alloc (nG #[nz (some ⟨b,0,none⟩)] 193)).alloc (nG #[ng nH n] 3)) #[ny uF] 9;rw[World.size_alloc,World.size_alloc]at this;exact this):p:=h
theorem qg(b:Nat)(r:RS)(n:Int)(w:jJ)(O:r.Ok)(hb:wo w b r):
  jV jI 145 #[nz (some ⟨b,0,none⟩),ng nH n] w (zw b w (r.take n).1 (ny (r.take n).2)):=by
 obtain⟨t,p,f⟩:=r;obtain⟨J,E⟩:=O;simp only at J E;have hlt:=nO.lt hb;have Q:∀(fn:Fn)(first cap:Array jP)(w:jJ),(mG fn first cap).run jI w=.ok (.func fn first cap) w:=λ_ _ _ _=>rfl
 obtain⟨w3,hw3⟩:∃w3,w3=(((w.alloc (nG #[nz (some ⟨b,0,none⟩)] 193)).alloc (nG #[ng nH n] 3)).alloc (nG #[ny uF] 9)):=⟨_,rfl⟩;have hb3:wo w3 b ⟨t,p,f⟩:=by rw[hw3];exact((nO.alloc hb _).alloc _).alloc _
 have hu3:pE b w w3:=by rw[hw3];exact(((pE.refl b w).alloc _).alloc _).alloc _
 have r0:w3.cell? ⟨w.heap.size,0,none⟩=some (nz (some ⟨b,0,none⟩)):=by rw[hw3];simp[go_sem]
 have r1:w3.cell? ⟨w.heap.size+1,0,none⟩=some (ng nH n):=by rw[hw3];simp[go_sem]
 have r2:nO w3 (w.heap.size+2) #[ny uF] 9:=by
  exact VV
 by_cases C:f=0
 .subst C
  by_cases hn:n<0
  .have e:RS.take ⟨t,p,0⟩ n=(⟨t,p,1⟩,uF):=by unfold RS.take;rw[if_pos rfl,if_pos hn]
   rw[e];clear e
   have H:=Br b (w.heap.size+2) t p p 1 #[nz (some ⟨w.heap.size+1,0,none⟩),nz (some ⟨w.heap.size,0,none⟩),nz (some ⟨w.heap.size+2,0,none⟩)] (λw'=>nO w' (w.heap.size+2) #[ny (uF)] 9) w3 hb3
    (λw' i v h=>h.setOther nQ v) ((VT b _ _ _ n w3 hn r1).mono λe w' ⟨he,A⟩=>⟨he,A▸oN.refl _ _ _,A▸hb3,A▸r2⟩)
   have HH:=jH H;clear H r0 r1;exact Bt
  by_cases I:(t.size:Int) - p<n
  .have e:RS.take ⟨t,p,0⟩ n=(⟨t,p,2⟩,uF):=by unfold RS.take;rw[if_pos rfl,if_neg hn,if_pos I]
   rw[e];clear e
   have H:=Br b (w.heap.size+2) t p p 2 #[nz (some ⟨w.heap.size+1,0,none⟩),nz (some ⟨w.heap.size,0,none⟩),nz (some ⟨w.heap.size+2,0,none⟩)] (λw'=>nO w' (w.heap.size+2) #[ny (uF)] 9) w3 hb3
    (λw' i v h=>h.setOther nQ v) ((Tz b _ _ _ t p 0 n w3 J E nK I hb3 r1 r0).mono λe w' ⟨he,k,A⟩=>⟨he,A▸(oN.refl _ _ _).drewN k,A▸hb3,A▸r2⟩)
   have HH:=jH H;clear H r0 r1;exact Bt
  obtain⟨m,rfl⟩:∃m:Nat,n=m:=⟨n.toNat,nK⟩;have e:RS.take ⟨t,p,0⟩ m=(⟨t,p+m,0⟩,t.extract p (p+m)):=by unfold RS.take;rw[if_pos rfl,if_neg hn,if_neg I];rfl
  rw[e];clear e
  have H:=Br b (w.heap.size+2) t p (p+m) 0 #[nz (some ⟨w.heap.size+1,0,none⟩),nz (some ⟨w.heap.size,0,none⟩),nz (some ⟨w.heap.size+2,0,none⟩)] (λw'=>nO w' (w.heap.size+2) #[ny (t.extract p (p+m))] 9) w3 hb3
   (λw' i v h=>h.setOther nQ v) (a0c b _ _ _ t p m 0 w3 E nK nK nK nK hb3 r2 r1 r0)
  have HH:=jH H;clear H r0 r1;exact Bt
 .have e:RS.take ⟨t,p,f⟩ n=(⟨t,p,f⟩,uF):=by unfold RS.take;rw[if_neg C]
  rw[e];have N:((f:Int)==0)=false:=by rw[beq_eq_false_iff_ne];exact C
  clear e;have HH:=jH (λv=>Cf b ⟨t,p,f⟩ v w3 N hb3);rw[hw3]at HH hu3 hb3;have q0:=r2.cell 0;rw[hw3]at q0;clear r2 r0 r1 C;exact J4
theorem J5(b:Nat)(r:RS)(n:Int)(w:jJ)(O:r.Ok)(hb:wo w b r):
  jV jI 247 #[nz (some ⟨b,0,none⟩),ng nH n] w (zw b w r (ny (r.ahead n))):=by
 obtain⟨t,p,f⟩:=r;obtain⟨I,J⟩:=O;simp only at I J;have hlt:=nO.lt hb;have Q:∀(fn:Fn)(first cap:Array jP)(w:jJ),(mG fn first cap).run jI w=.ok (.func fn first cap) w:=λ_ _ _ _=>rfl
 obtain⟨w3,hw3⟩:∃w3,w3=(((w.alloc (nG #[nz (some ⟨b,0,none⟩)] 193)).alloc (nG #[ng nH n] 3)).alloc (nG #[ny uF] 9)):=⟨_,rfl⟩;have hb3:wo w3 b ⟨t,p,f⟩:=by rw[hw3];exact((nO.alloc hb _).alloc _).alloc _
 have hu3:pE b w w3:=by rw[hw3];exact(((pE.refl b w).alloc _).alloc _).alloc _
 have r0:w3.cell? ⟨w.heap.size,0,none⟩=some (nz (some ⟨b,0,none⟩)):=by rw[hw3];simp[go_sem]
 have r1:w3.cell? ⟨w.heap.size+1,0,none⟩=some (ng nH n):=by rw[hw3];simp[go_sem]
 have r2:nO w3 (w.heap.size+2) #[ny uF] 9:=by
  exact VV
 by_cases A:f=0
 .subst A
  by_cases hn:0<n
  .have e:RS.ahead ⟨t,p,0⟩ n=t.extract p (p+min n.toNat (t.size - p)):=by unfold RS.ahead;rw[if_pos rfl,if_pos hn]
   rw[e];clear e;obtain⟨m,C⟩:∃m,m=min n.toNat (t.size - p):=⟨_,rfl⟩;rw[<-C]
   have H:=Es b (w.heap.size+2) t p p 0 #[nz (some ⟨w.heap.size+1,0,none⟩),nz (some ⟨w.heap.size,0,none⟩),nz (some ⟨w.heap.size+2,0,none⟩)] (λw'=>nO w' (w.heap.size+2) #[ny (t.extract p (p+m))] 9) w3 hb3
    (λw' i v h=>h.setOther nQ v) (VU b _ _ _ t p m 0 n w3 J I hn C nK hb3 r2 r1 r0)
   have HH:=jH H;clear H r0 r1 C;exact Bt
  have e:RS.ahead ⟨t,p,0⟩ n=uF:=by unfold RS.ahead;rw[if_pos rfl,if_neg hn]
  rw[e];clear e
  have H:=Es b (w.heap.size+2) t p p 0 #[nz (some ⟨w.heap.size+1,0,none⟩),nz (some ⟨w.heap.size,0,none⟩),nz (some ⟨w.heap.size+2,0,none⟩)] (λw'=>nO w' (w.heap.size+2) #[ny (uF)] 9) w3 hb3
   (λw' i v h=>h.setOther nQ v) ((OY b _ _ _ n w3 hn r1).mono λe w' ⟨he,E⟩=>⟨he,E▸oN.refl _ _ _,E▸hb3,E▸r2⟩)
  have HH:=jH H;clear H r0 r1;exact Bt
 .have e:RS.ahead ⟨t,p,f⟩ n=uF:=by unfold RS.ahead;rw[if_neg A]
  rw[e];have N:((f:Int)==0)=false:=by rw[beq_eq_false_iff_ne];exact A
  clear e;have HH:=jH (λv=>Cf b ⟨t,p,f⟩ v w3 N hb3);rw[hw3]at HH hu3 hb3;have q0:=r2.cell 0;rw[hw3]at q0;clear r2 r0 r1 A;exact J4
theorem L6(b:Nat)(r:RS)(w:jJ)(N:r.Ok)(hb:wo w b r):
  jV jI 224 #[nz (some ⟨b,0,none⟩)] w (zw b w r.byte.1 (ng .u8 r.byte.2)):=by
 obtain⟨t,p,f⟩:=r;obtain⟨I,C⟩:=N;simp only at I C;have hlt:=nO.lt hb;have O:∀(fn:Fn)(first cap:Array jP)(w:jJ),(mG fn first cap).run jI w=.ok (.func fn first cap) w:=λ_ _ _ _=>rfl
 obtain⟨w3,hw3⟩:∃w3,w3=((w.alloc (nG #[nz (some ⟨b,0,none⟩)] 193)).alloc (nG #[ng .u8 0] 5)):=⟨_,rfl⟩;have hb3:wo w3 b ⟨t,p,f⟩:=by rw[hw3];exact(nO.alloc hb _).alloc _
 have hu3:pE b w w3:=by rw[hw3];exact((pE.refl b w).alloc _).alloc _
 have r0:w3.cell? ⟨w.heap.size,0,none⟩=some (nz (some ⟨b,0,none⟩)):=by rw[hw3];simp[go_sem]
 have r2:nO w3 (w.heap.size+1) #[ng .u8 0] 5:=by
  rw[hw3];have:=nO.new (w.alloc (nG #[nz (some ⟨b,0,none⟩)] 193)) #[ng .u8 0] 5;rw[World.size_alloc]at this;exact this
 by_cases A:f=0
 .subst A
  by_cases hp:p<t.size
  .have e:RS.byte ⟨t,p,0⟩=(⟨t,p+1,0⟩,(t[p].toNat:Int)):=by unfold RS.byte;rw[if_pos rfl,dif_pos hp]
   rw[e];clear e
   have H:=FO b (w.heap.size+1) t p (p+1) 0 #[nz (some ⟨w.heap.size,0,none⟩),nz (some ⟨w.heap.size+1,0,none⟩)] (λw'=>nO w' (w.heap.size+1) #[ng .u8 (t[p].toNat:Int)] 5) w3 hb3
    (λw' i v h=>h.setOther nQ v) (a0d b _ _ t p 0 w3 C hp nK nK hb3 r2 r0)
   have HH:=jH H;clear H r0;exact Bt
  .have e:RS.byte ⟨t,p,0⟩=(⟨t,p,2⟩,0):=by unfold RS.byte;rw[if_pos rfl,dif_neg hp]
   rw[e];clear e
   have H:=FO b (w.heap.size+1) t p p 2 #[nz (some ⟨w.heap.size,0,none⟩),nz (some ⟨w.heap.size+1,0,none⟩)] (λw'=>nO w' (w.heap.size+1) #[ng .u8 0] 5) w3 hb3
    (λw' i v h=>h.setOther nQ v) ((TA b _ _ t p 0 w3 C I nK hb3 r0).mono λe w' ⟨he,k,E⟩=>⟨he,E▸(oN.refl _ _ _).drewN k,E▸hb3,E▸r2⟩)
   have HH:=jH H;clear H r0;exact Bt
 .have e:RS.byte ⟨t,p,f⟩=(⟨t,p,f⟩,0):=by unfold RS.byte;rw[if_neg A]
  rw[e];have J:((f:Int)==0)=false:=by rw[beq_eq_false_iff_ne];exact A
  clear e;have HH:=jH (λv=>Cf b ⟨t,p,f⟩ v w3 J hb3);rw[hw3]at HH hu3 hb3;clear r2 r0 A;exact J4
theorem ui(b:Nat)(r:RS)(x:Int)(w:jJ)(hb:wo w b r):
  jV jI 191 #[nz (some ⟨b,0,none⟩),ng nH x] w (zw b w (r.fail x) (nD #[])):=by
 obtain⟨t,p,f⟩:=r;have hlt:=nO.lt hb;have N:∀(fn:Fn)(first cap:Array jP)(w:jJ),(mG fn first cap).run jI w=.ok (.func fn first cap) w:=λ_ _ _ _=>rfl
 have hb3:wo (w.alloc (nG #[ng nH x] 36)) b ⟨t,p,f⟩:=nO.alloc hb _;have hu3:pE b w (w.alloc (nG #[ng nH x] 36)):=(pE.refl b w).alloc _;have r0:(w.alloc (nG #[ng nH x] 36)).cell? ⟨w.heap.size,0,none⟩=some (ng nH x):=by simp[go_sem]
 by_cases A:f=0
 .subst A
  have e:RS.fail ⟨t,p,0⟩ x=⟨t,p,x⟩:=if_pos rfl;rw[e]
  have H:=OZ b 0 t p p x #[nz (some ⟨w.heap.size,0,none⟩)] (λ_=>True) _ hb3 (λ_ _ _ _=>trivial)
   ((TB w.heap.size x _ r0).mono λe w' ⟨he,C⟩=>⟨he,C▸pE.refl _ _,C▸hb3,trivial⟩)
  have HH:=jH H;clear H r0 e hb3;go_in;go_wp2_with fail;refine HH.mono ?_;rintro e w4 ⟨rfl,E,I,_⟩;go_wp2_with fail;go_returns;exact⟨rfl,hu3.trans E,I⟩
 .have e:RS.fail ⟨t,p,f⟩ x=⟨t,p,f⟩:=if_neg A
  rw[e];have J:((f:Int)==0)=false:=by rw[beq_eq_false_iff_ne];exact A
  have HH:=jH (λv=>Cf b ⟨t,p,f⟩ v _ J hb3);clear e r0 A;exact J4
end
section
def om:List UInt8->Nat->Nat->Nat×Nat×Nat
 |[],_,_=>(0,0,2)
 |b::r,i,n=>
  if i=9/\1<b.toNat\/0<i/\b.toNat=0 then(0,0,3)
  else if b.toNat<128 then(n+b.toNat % 128*128^i,i+1,0)
  else om r (i+1) (n+b.toNat % 128*128^i)
def VW(t:Nat×Nat×Nat):jP:=nD #[ng nI t.1,ng nH t.2.1,ng nH t.2.2]
theorem a0e{a b c:Int}{x y z:Nat}(A:a=x)(C:b=y)(E:c=z):
  lH (nD #[ng nI a,ng nH b,ng nH c])=nE (VW (x,y,z)):=by rw[A,C,E];rfl
theorem drop_at(s:ByteArray)(k:Nat)(h:k<s.size):s.data.toList.drop k=s[k]::s.data.toList.drop (k+1):=by
 have A:k<s.data.toList.length:=by simpa using h
 rw[List.drop_eq_getElem_cons A];rfl
def yg(s:ByteArray)(t:Nat×Nat×Nat)(k n:Nat):Prop:=n<128^k/\om (s.data.toList.drop k) k n=t
theorem yg.start(s:ByteArray):yg s (om s.data.toList 0 0) 0 0:=⟨nR,nR⟩
theorem yg.short{t:Nat×Nat×Nat}{k n:Nat}(h:yg s t k n)(hk:s.size<=k):t=(0,0,2):=by
 rw[<-h.2,List.drop_of_length_le (by simpa using hk)];rfl
theorem yg.form{t:Nat×Nat×Nat}{k n:Nat}(h:yg s t k n)(hk:k<s.size)(c:k=9/\1<s[k].toNat\/0<k/\s[k].toNat=0):t=(0,0,3):=by
 rw[<-h.2,drop_at s k hk,om,if_pos c]
theorem yg.done{t:Nat×Nat×Nat}{k n:Nat}(h:yg s t k n)(hk:k<s.size)(c:¬(k=9/\1<s[k].toNat\/0<k/\s[k].toNat=0))(c2:s[k].toNat<128):t=(n+s[k].toNat % 128*128^k,k+1,0):=by
 rw[<-h.2,drop_at s k hk,om,if_neg c,if_pos c2]
theorem yg.step{t:Nat×Nat×Nat}{k n:Nat}(h:yg s t k n)(hk:k<s.size)(c:¬(k=9/\1<s[k].toNat\/0<k/\s[k].toNat=0))(c2:128<=s[k].toNat):yg s t (k+1) (n+s[k].toNat % 128*128^k):=by
 refine⟨?_,?_⟩
 .have A:=h.1
  have:s[k].toNat % 128<=127:=nK;have C:=lZ (128^k) this;rw[l6];omega
 .rw[<-h.2,drop_at s k hk,om,if_neg c,if_neg nK]
theorem VX(k:Nat)(h:k<=9):128^k<=9223372036854775808:=
 kg (lq nN h) nN
theorem a0f(k:Nat)(h:k<=8):128^k<=72057594037927936:=
 kg (lq nN h) nN
theorem a2H(k b:Nat)(hk:k<=9)(A:k=9->b % 128<=1):b % 128*128^k+128^k<=18446744073709551616:=by
 have hp:=VX k hk;by_cases h:k=9
 .have:=lZ (128^k) (A h)
  omega
 .have C:=a0f k nK
  have E:b % 128<=127:=nK;have:=Nat.mul_le_mul E C;omega
theorem a2I(k n b:Nat)(hk:k<=9)(hn:n<128^k)(hb:b<256)(C:k=9->b % 128<=1):
  bits BinOp.or IntKind.u64 (n:Int) (IntKind.u64.wrap (IntKind.u64.wrap (bits BinOp.and IntKind.u8 (b:Int) 127)*2^(7*k)))=
   ((n+b % 128*128^k:Nat):Int):=by
 have hp:=VX k hk;have e1:bits BinOp.and IntKind.u8 (b:Int) 127=((b % 128:Nat):Int):=by
  rw[show(127:Int)=((127:Nat):Int)from rfl,u8_and_nat b 127 hb nN];congr 1;exact Nat.and_two_pow_sub_one_eq_mod b 7
 have e2:(2:Int)^(7*k)=((128^k:Nat):Int):=by
  rw[Int.pow_mul];simp
 have lt:b % 128*128^k+128^k<=18446744073709551616:=by
  by_cases h:k=9
  .have:=lZ (128^k) (C h)
   omega
  .have E:128^k<=72057594037927936:=kg (lq nN (show k<=8 by omega)) nN
   have I:b % 128<=127:=nK;have:=Nat.mul_le_mul I E;omega
 have hd:0<=b % 128*128^k:=kI _
 rw[e1,e2,IntWalk.u64_in ((b % 128:Nat):Int) ⟨nK,nK⟩,<-Int.natCast_mul,IntWalk.u64_in _ ⟨nK,nK⟩,
  u64_or_nat n (b % 128*128^k) nK nK]
 congr 1;have A:n<2^(7*k):=by rw[Nat.pow_mul];exact hn
 have:=mO A (b % 128);rw[Nat.pow_mul]at this;rw[Nat.or_comm,Nat.mul_comm,show(128:Nat)=2^7 from rfl,<-this,Nat.add_comm]
def nZ(n:Nat):List UInt8:=if h:n<128 then [jZ n]else jZ (n % 128+128)::nZ (n/128)
termination_by n
decreasing_by omega
theorem qM(n:Nat)(h:n<128):nZ n=[jZ n]:=by rw[nZ,dif_pos h]
theorem uW(n:Nat)(h:128<=n):nZ n=jZ (n % 128+128)::nZ (n/128):=by rw[nZ,dif_neg nK]
theorem sN:∀ k n:Nat,n<128^k->(nZ n).length<=max 1 k
 |0,n,h=>by rw[qM n (by simp at h;omega)];simp
 |k+1,n,h=>by
  by_cases c:n<128;.rw[qM n c];simp
  .rw[uW n nK]
   have:=sN k (n/128) (by rw[l6]at h;omega);simp only[kD];have:k≠0:=by rintro rfl;simp at h;omega
   omega
def zy(t l:List UInt8)(m:Nat):Prop:=l++nZ m=t/\t.length<=10
theorem zy.start(n:Nat)(h:n<18446744073709551616):zy (nZ n) [] n:=by
 refine⟨rfl,?_⟩;have:=sN 10 n (kG h nN);omega
theorem zy.le{t l:List UInt8}{m:Nat}(h:zy t l m):l.length+1<=10:=by
 have A:=congrArg List.length h.1;have C:=h.2;simp only[jY]at A;have:1<=(nZ m).length:=by
  by_cases c:m<128;.rw[qM m c];simp
  .rw[uW m nK];simp
 omega
theorem zy.step{t l:List UInt8}{m:Nat}(h:zy t l m)(c:128<=m):zy t (l++[jZ (m % 128+128)]) (m/128):=by
 refine⟨?_,h.2⟩;rw[lD,<-h.1,uW m c];rfl
theorem zy.done{t l:List UInt8}{m:Nat}(h:zy t l m)(c:m<128):l++[jZ m]=t:=by
 rw[<-h.1,qM m c]
theorem a5o(m:Nat):bits BinOp.or IntKind.u8 ((m:Int) % 256) 128=((m % 128+128:Nat):Int):=by
 rw[show(m:Int) % 256=((m % 256:Nat):Int)from by omega,show(128:Int)=((128:Nat):Int)from rfl,u8_or_nat (m % 256) 128 nK nN];congr 1;have key:∀a:Nat,a<256->a|||128=a % 128+128:=yc
 rw[key _ nK];omega
theorem O0(n:Nat):1<=(nZ n).length:=by
 by_cases c:n<128;.rw[qM n c];simp
 .rw[uW n nK];simp
theorem a2l{b:UInt8}{n:Nat}(h:n=b.toNat):jZ n=b:=by subst h;simp
theorem L8:∀(r:List UInt8)(i acc N K:Nat),i<=9->acc<128^i->om r i acc=(N,K,0)->
  ∃m,N=acc+m*128^i/\N<18446744073709551616/\K=i+(nZ m).length/\(0<i->0<m)/\nZ m<+:r
 |[],i,acc,N,K,hi,E,h=>by simp[om]at h
 |b::r,i,acc,N,K,hi,E,h=>by
  rw[om]at h;by_cases c:i=9/\1<b.toNat\/0<i/\b.toNat=0;.rw[if_pos c]at h;simp at h
  .rw[if_neg c]at h
   have hb:=b.toNat_lt;by_cases c2:b.toNat<128
   .rw[if_pos c2]at h
    simp only[Prod.mk.injEq]at h;have hlt:=a2H i b.toNat hi nK;have e:b.toNat % 128=b.toNat:=nK;rw[e]at h hlt;refine⟨b.toNat,h.1.symm,nK,?_,nK,?_⟩;.rw[qM _ c2];exact h.2.1.symm
    .rw[qM _ c2,a2l rfl];exact⟨r,rfl⟩
   .rw[if_neg c2]at h
    have hi9:i<=8:=nK;have A:acc+b.toNat % 128*128^i<128^(i+1):=by
     have:b.toNat % 128<=127:=nK;have C:=lZ (128^i) this;rw[l6];omega
    obtain⟨m,I,C,J,O,Q⟩:=L8 r (i+1) _ N K nK A h;have U:=O nK;have e1:(b.toNat % 128+128*m) % 128+128=b.toNat:=nK;have e2:(b.toNat % 128+128*m)/128=m:=nK;have e3:nZ (b.toNat % 128+128*m)=b::nZ m:=by
     rw[uW _ nK,e1,e2,a2l rfl]
    refine⟨b.toNat % 128+128*m,?_,C,?_,nK,?_⟩
    .rw[I,l6,lS]
     have:m*(128^i*128)=128*m*128^i:=by rw[Nat.mul_comm (128^i) 128,<-Nat.mul_assoc,Nat.mul_comm m 128]
     omega
    .rw[e3,J];simp only[kD];omega
    .rw[e3];exact List.cons_prefix_cons.2 ⟨rfl,Q⟩
theorem tQ{l:List UInt8}{N K:Nat}(h:om l 0 0=(N,K,0)):K<=l.length/\N<18446744073709551616/\nZ N=l.take K/\K<=10:=by
 obtain⟨m,C,E,A,_,I⟩:=L8 l 0 0 N K nK nR h;simp at C A;subst C;refine⟨by rw[A];exact I.length_le,E,?_,?_⟩;.rw[A];exact(List.prefix_iff_eq_take.1 I)
 .have:=sN 10 N (kG E nN)
  omega
theorem I8:∀(k m:Nat)(more:List UInt8)(i acc:Nat),m<128^k->(0<i->0<m)->i<=9->m*128^i<18446744073709551616->
  om (nZ m++more) i acc=(acc+m*128^i,i+(nZ m).length,0)
 |k,m,more,i,acc,A,hi0,hi,hlt=>by
  have C:i=9->m<=1:=by
   rintro rfl;by_cases c:m<=1;.exact c
   .have:=lZ (128^9) (show 2<=m by omega)
    have h0:2*128^9=18446744073709551616:=yc;omega
  by_cases c:m<128
  .rw[qM m c,List.singleton_append,om]
   have e:=zu m nK;rw[e,if_neg nK,if_pos c,Nat.mod_eq_of_lt c];rfl
  .match k,A with
   |0,A=>simp at A;omega
   |k+1,A=>
   have hi8:i<=8:=nK;rw[uW m nK,mU,om];have e:=zu (m % 128+128) nK;rw[e,if_neg nK,if_neg nK];have e2:m/128*128^(i+1)=m/128*128*128^i:=by rw[l6,Nat.mul_comm (128^i) 128,<-Nat.mul_assoc]
   have e3:m*128^i=m/128*128*128^i+m % 128*128^i:=by rw[<-lS];congr 1;omega
   rw[I8 k (m/128) more (i+1) _ (by rw[l6]at A;omega) nK nK (by rw[e2];omega),e2];have e4:(m % 128+128) % 128=m % 128:=nK;rw[e4];simp only[Prod.mk.injEq,kD,and_true];omega
theorem zz(n:Nat)(more:List UInt8)(h:n<18446744073709551616):om (nZ n++more) 0 0=(n,(nZ n).length,0):=by
 have:=I8 10 n more 0 0 (kG h nN) nK nK (by simpa using h);simpa using this
theorem a5p{a b:ByteArray}(h:a.data.toList=b.data.toList):a=b:=by
 apply ByteArray.ext;exact Array.toList_inj.1 h
def pq(most:Int)(l:List UInt8):Nat×Nat×Nat:=
 if(om l 0 0).2.2=0 then if most<0\/most<((om l 0 0).1:Int)then(0,0,5)else om l 0 0 else(0,0,(om l 0 0).2.2)
structure PF where
 id:Nat
 body:ByteArray
 n:Nat
 e:Nat
def PF.bad(e:Nat):PF:=⟨0,⟨#[]⟩,0,e⟩
def o9(most:Int)(s:ByteArray):PF:=
 if(pq most s.data.toList).2.2=0 then
  if s.size<(pq most s.data.toList).2.1+(pq most s.data.toList).1 then .bad 2
  else
   (λi:ByteArray=>if(om i.data.toList 0 0).2.2=0 then⟨(om i.data.toList 0 0).1,i.extract (om i.data.toList 0 0).2.1 i.size,(pq most s.data.toList).2.1+(pq most s.data.toList).1,0⟩else .bad 3)
    (s.extract (pq most s.data.toList).2.1 ((pq most s.data.toList).2.1+(pq most s.data.toList).1))
 else .bad (pq most s.data.toList).2.2
def xP(id:Nat)(b:ByteArray):ByteArray:=⟨(nZ ((nZ id).length+b.size)).toArray⟩++⟨(nZ id).toArray⟩++b
theorem zA{l:List UInt8}{n k:Nat}(h:pq most l=(n,k,0)):om l 0 0=(n,k,0)/\(n:Int)<=most/\k<=l.length/\k<=10:=by
 unfold pq at h;split at h
 .rename_i h0
  split at h;.simp at h
  .rename_i A
   have hk:=tQ h;rw[h]at A;simp only at A;exact⟨h,nK,hk.1,hk.2.2.2⟩
 .rename_i h0
  simp only[Prod.mk.injEq]at h;exact absurd h.2.2 h0
theorem TD{l:List UInt8}(h:(pq most l).2.2≠0):pq most l=(0,0,(pq most l).2.2):=by
 unfold pq at*;split
 .rename_i h0
  rw[if_pos h0]at h;split;.rfl
  .rename_i A
   rw[if_neg A]at h;exact absurd h0 h
 .rfl
theorem L9(h:(pq most s.data.toList).2.2≠0):o9 most s=.bad (pq most s.data.toList).2.2:=by unfold o9;rw[if_neg h]
theorem O1{n k:Nat}(h:pq most s.data.toList=(n,k,0))(A:s.size<k+n):o9 most s=.bad 2:=by
 unfold o9;rw[h,if_pos rfl,if_pos A]
theorem O3{n k:Nat}(h:pq most s.data.toList=(n,k,0))(C:k+n<=s.size)(A:(om (s.extract k (k+n)).data.toList 0 0).2.2≠0):o9 most s=.bad 3:=by
 unfold o9;rw[h,if_pos rfl,if_neg (show¬s.size<k+n by omega)];show(if _ then _ else _)=_;rw[if_neg A]
theorem Ma{n k id z:Nat}(h:pq most s.data.toList=(n,k,0))(C:k+n<=s.size)(A:om (s.extract k (k+n)).data.toList 0 0=(id,z,0)):
  o9 most s=⟨id,(s.extract k (k+n)).extract z n,k+n,0⟩:=by
 unfold o9;rw[h,if_pos rfl,if_neg (show¬s.size<k+n by omega)];show(if _ then _ else _)=_;rw[A,if_pos rfl,kz,show min (k+n) s.size - k=n by omega]
theorem TE(id:Nat)(b:ByteArray):(xP id b).data.toList=nZ ((nZ id).length+b.size)++(nZ id++b.data.toList):=by
 unfold xP;simp
theorem DD(id:Nat)(b:ByteArray):(xP id b).size=(nZ ((nZ id).length+b.size)).length+((nZ id).length+b.size):=by
 unfold xP;rw[ByteArray.size_append,ByteArray.size_append,size_mk (nZ ((nZ id).length+b.size)),size_mk (nZ id)];omega
theorem a0g(a b:ByteArray)(i j:Nat)(x y z:List UInt8)(h:a.data.toList=x++(y++z))(hi:i=x.length)(A:j=x.length+y.length):(a.extract i j).data.toList=y:=by
 rw[mY,h,hi,A,List.drop_left,show x.length+y.length - x.length=y.length by omega,List.take_left]
theorem I9(most:Int)(id:Nat)(b more:ByteArray)(hid:id<18446744073709551616)(hb:(((nZ id).length+b.size:Nat):Int)<=most)(J:b.size<=9223372036854775807):
  o9 most (xP id b++more)=⟨id,b,(xP id b).size,0⟩:=by
 have hl:=sN 10 id (kG hid nN);have A:(xP id b++more).data.toList=nZ ((nZ id).length+b.size)++((nZ id++b.data.toList)++more.data.toList):=by
  rw[ByteArray.data_append,Array.toList_append,TE];simp
 have hn:=zz ((nZ id).length+b.size) ((nZ id++b.data.toList)++more.data.toList) nK;rw[<-A]at hn;have hs:pq most (xP id b++more).data.toList=((nZ id).length+b.size,(nZ ((nZ id).length+b.size)).length,0):=by
  unfold pq;rw[hn,if_pos rfl,if_neg (by simp only;omega)]
 have hsz:(nZ ((nZ id).length+b.size)).length+((nZ id).length+b.size)<=(xP id b++more).size:=by rw[ByteArray.size_append,DD];omega
 have C:b.data.toList.length=b.size:=(Lib.size_eq b).symm
 have E:((xP id b++more).extract (nZ ((nZ id).length+b.size)).length ((nZ ((nZ id).length+b.size)).length+((nZ id).length+b.size))).data.toList=nZ id++b.data.toList:=
  a0g _ b _ _ _ _ _ A rfl (by rw[jY,C])
 have I:om ((xP id b++more).extract (nZ ((nZ id).length+b.size)).length ((nZ ((nZ id).length+b.size)).length+((nZ id).length+b.size))).data.toList 0 0=(id,(nZ id).length,0):=by
  rw[E];exact zz id _ hid
 rw[Ma hs hsz I,DD];congr 1;apply a5p;rw[mY,E,List.drop_left,List.take_of_length_le nK]
end
section
open Go.RowKit
theorem J6{p:Prop}(h:p:=by
 clear c d1;go_wp2;go_returns;exact⟨by rw[ht.out];exact a0e hor rfl rfl,rfl⟩):p:=h
theorem Rk{p:Prop}(h:p:=by
 clear c c2;go_wp2;go_round;case rel=>exact⟨k+1,_,nK,nK,by go_num,by rw[hor.out],hs'⟩
 case measure=>simp[kW];omega):p:=h
theorem Rl{p:Prop}(h:p:=by
 have c3:((s[k].toNat:Int)==0)=true:=Ty;have c4:0<k:=nK;clear c d;go_wp2;go_returns;exact⟨by rw[ht.out];rfl,rfl⟩):p:=h
theorem Cg(s:ByteArray)(w:jJ)(hs:s.size<=j5):
  jV jI 126 #[ny s] w λe w'=>e=nE (VW (om s.data.toList 0 0))/\w=w':=by
 unfold j5 at hs;have J:=yg.start s;generalize om s.data.toList 0 0=t at*;go_in
 obtain⟨m,N,Q,hm2,C⟩:∃m:Nat,(if(10:Int)<(s.size:Int)then 10 else(s.size:Int))=(m:Int)/\m<=s.size/\m<=10/\(s.size<=m\/10<=m):=
  ⟨min s.size 10,by split<;>omega,nK,nK,nK⟩
 have E:=jH C;clear C;go_wp2
 .clear N
  go_loop [5,11] (λacc i=>∃k n:Nat,k<=s.size/\k<=9/\i=ng nH k/\acc=ng nI n/\yg s t k n) (λ_ i=>10 -(kW i).toNat);case atStart=>exact⟨0,0,nK,nK,rfl,rfl,J⟩
  case round=>
   obtain⟨k,n,hk,I,rfl,rfl,A⟩:=hrel;by_cases U:k<m
   .have hlt:k<s.size:=nK
    have hb:s[k].toNat<=255:=by have:=s[k].toNat_lt;omega
    by_cases c:k=9/\1<s[k].toNat\/0<k/\s[k].toNat=0
    .have ht:=jH (A.form hlt c)
     by_cases d:k=9
     .have c1:((k:Int)==9)=true:=Ty
      by_cases c2:1<s[k].toNat
      .clear c d
       go_wp2;go_returns;exact⟨by rw[ht.out];rfl,rfl⟩
      .exact Rl
     .have c1:((k:Int)==9)=false:=wL
      exact Rl
    .have hor:=jH (a2I k n s[k].toNat I A.1 nK nK)
     by_cases c2:s[k].toNat<128
     .have ht:=jH (A.done hlt c c2)
      by_cases d1:k=9
      .have c1:((k:Int)==9)=true:=Ty
       have c5:s[k].toNat<=1:=nK;have c3:((s[k].toNat:Int)==0)=false:=wL;have c4:0<k:=nK;exact J6
      .have c1:((k:Int)==9)=false:=wL
       by_cases O:0<k
       .have c3:((s[k].toNat:Int)==0)=false:=wL
        exact J6
       .exact J6
     .have c4:128<=s[k].toNat:=nK
      have hs':=A.step hlt c c4;have c1:((k:Int)==9)=false:=wL;have V:k<=8:=nK;by_cases O:0<k
      .have c3:((s[k].toNat:Int)==0)=false:=wL
       exact Rk
      .exact Rk
   .go_wp2
    go_returns;exact⟨by rw[A.short (by have:=E.out;omega)];rfl,rfl⟩
end
section
def vJ:Nat->Nat->List UInt8
 |0,_=>[]
 |k+1,n=>jZ (n % 256)::vJ k (n/256)
def pU:List UInt8->Nat
 |[]=>0
 |b::r=>b.toNat+256*pU r
def xh(n:Nat):List UInt8:=if h:n=0 then []else jZ (n % 256)::xh (n/256)
termination_by n
decreasing_by omega
theorem tu:xh 0=[]:=by rw[xh,dif_pos rfl]
theorem vD(n:Nat)(h:0<n):xh n=jZ (n % 256)::xh (n/256):=by rw[xh,dif_neg nK]
@[simp] theorem pF:∀ k n:Nat,(vJ k n).length=k
 |0,_=>rfl
 |k+1,n=>by simp[vJ,pF k]
theorem u8n(n:Nat)(h:n<256):(jZ n).toNat=n:=by
 show n % 256=n;exact Nat.mod_eq_of_lt h
theorem Mc:∀ k n:Nat,vJ (k+1) n=vJ k n++[jZ (n/256^k % 256)]
 |0,n=>by simp[vJ]
 |k+1,n=>by
  rw[vJ,Mc k (n/256),vJ,Nat.div_div_eq_div_mul,l6,Nat.mul_comm 256];rfl
theorem FP:∀ k n:Nat,n<256^k->pU (vJ k n)=n
 |0,n,h=>by simp at h;subst h;rfl
 |k+1,n,h=>by
  rw[vJ,pU,u8n _ nK,FP k (n/256) (by rw[l6]at h;omega)];omega
theorem uG:∀ l:List UInt8,pU l<256^l.length
 |[]=>by simp[pU]
 |b::r=>by
  have:=uG r;have hb:=b.toNat_lt;rw[pU,kD,l6];omega
theorem u8e{b:UInt8}{n:Nat}(h:n=b.toNat):jZ n=b:=by subst h;simp
theorem Md:∀ l:List UInt8,vJ l.length (pU l)=l
 |[]=>rfl
 |b::r=>by
  have hb:=b.toNat_lt;rw[pU,kD,vJ,u8e (b:=b) nK,show(b.toNat+256*pU r)/256=pU r by omega,Md r]
theorem zB:∀ l m:List UInt8,pU (l++m)=pU l+256^l.length*pU m
 |[],m=>by simp[pU]
 |b::r,m=>by
  rw[mU,pU,pU,zB r m,kD,l6,Nat.mul_comm (256^r.length) 256,Nat.mul_assoc];omega
theorem DF:∀ k n:Nat,n<256^k->(xh n).length<=k
 |0,n,h=>by simp at h;subst h;simp[tu]
 |k+1,n,h=>by
  by_cases c:n=0;.subst c;simp[tu]
  .rw[vD n nK,kD]
   have:=DF k (n/256) (by rw[l6]at h;omega);omega
theorem J7:∀ k n:Nat,n<256^k->vJ k n=xh n++lu (k -(xh n).length) 0
 |0,n,h=>by simp at h;subst h;simp[tu,vJ]
 |k+1,n,h=>by
  by_cases c:n=0
  .subst c
   have:=J7 k 0 (Nat.pow_pos nN);simp only[tu,List.nil_append,List.length_nil,Nat.sub_zero]at this⊢;rw[vJ,this];rfl
  .rw[vD n nK,vJ,J7 k (n/256) (by rw[l6]at h;omega),kD,mU,Nat.add_sub_add_right]
theorem Me(n:Nat):pU (xh n)=n:=by
 induction n using Nat.strongRecOn with
 |_ n A=>
  by_cases c:n=0;.subst c;simp[tu,pU]
  .rw[vD n nK,pU,A (n/256) nK,u8n _ nK];omega
theorem a0h(k n:Nat):(xh n).length<=k<->n<256^k:=by
 refine⟨λh=> ?_,DF k n⟩;have:=uG (xh n);rw[Me]at this;exact kG this (lq nN h)
theorem a2J(n:Nat):xh n=vJ (xh n).length n:=by
 have:=J7 (xh n).length n ((a0h _ _).1 (jL _));simpa using this.symm
theorem Mf:∀(l:List UInt8)(b:UInt8),b.toNat≠0->xh (pU (l++[b]))=l++[b]
 |[],b,h=>by
  have hb:=b.toNat_lt;simp only[List.nil_append,pU,Nat.mul_zero,Nat.add_zero];rw[vD _ nK,show b.toNat/256=0 by omega,tu,u8e (b:=b) nK]
 |a::r,b,h=>by
  have A:=Mf r b h;have C:=a.toNat_lt;have h0:0<pU (r++[b]):=by
   rw[zB,pU,pU];have:=Nat.pow_pos (n:=r.length) (show 0<256 by decide);have:=Nat.mul_pos this (show 0<b.toNat+256*0 by omega);omega
  rw[mU,pU,vD _ nK,show(a.toNat+256*pU (r++[b]))/256=pU (r++[b])by omega,A,u8e (b:=a) nK]
theorem VY(n:Nat)(h:0<n):∃l b,xh n=l++[b]/\b.toNat≠0:=by
 induction n using Nat.strongRecOn with
 |_ n A=>
  by_cases c:n<256
  .refine⟨[],jZ n,?_,by rw[u8n n c];omega⟩
   rw[vD n h,show n/256=0 by omega,tu,Nat.mod_eq_of_lt c];rfl
  .obtain⟨l,b,C,E⟩:=A (n/256) nK nK
   exact⟨jZ (n % 256)::l,b,by rw[vD n h,C];rfl,E⟩
def uE(l:List UInt8):Nat:=pU l.reverse
theorem TF(l:List UInt8)(b:UInt8):uE (l++[b])=256*uE l+b.toNat:=by
 unfold uE;rw[List.reverse_append];simp[pU];omega
theorem J8(l:List UInt8):uE l<256^l.length:=by
 have:=uG l.reverse;rwa [List.length_reverse]at this
theorem TG(l:List UInt8)(b:UInt8):pU (l++[b])=pU l+256^l.length*b.toNat:=by
 rw[zB];simp[pU]
end
section
open Go.RowKit
theorem Ch:ql jI 86 5 9:=⟨l8,Tryz.underlying5,mR,nM⟩
theorem O4(k:Nat):(2:Int)^(8*k)=((256^k:Nat):Int):=by
 rw[Int.pow_mul];simp
theorem a0i(n k:Nat)(w:jJ)(hn:n<18446744073709551616)(A:1<=k)(C:k<=8)(h:n<256^k):
  jV jI 178 #[ng nI n,ng nH k] w λe w'=>e=nE (ng nH 0)/\w=w':=by
 have hb:(((n:Int)/2^(8*k)) !=0)=false:=by
  rw[O4,bne_eq_false_iff_eq,<-Int.natCast_ediv,Nat.div_eq_of_lt h];rfl
 clear h;go_in;go_wp2_with fail;go_returns;exact⟨rfl,rfl⟩
def xQ(k j n:Nat):List jP:=nU (vJ j n)++lu (k - j) (ng .u8 0)
theorem Mg(k j n:Nat)(h:j<k):(xQ k j n).set j (ng .u8 ((n/256^j % 256:Nat):Int))=xQ k (j+1) n:=by
 unfold xQ;rw[Mc,pg,List.set_append_right _ _ nR,show k - j=(k -(j+1))+1 by omega,List.replicate_succ];simp[nU,u8n _ (Nat.mod_lt (n/256^j) (show 0<256 by decide))]
theorem Mh(k n:Nat):(nU (vJ k n)).length=k:=nR
theorem O5(k j n:Nat)(h:j<k):(xQ k j n)[j]? =some (ng .u8 0):=by
 unfold xQ;rw[List.getElem?_append_right nR,Mh,List.getElem?_replicate,if_pos nK]
theorem FQ(n k:Nat)(w:jJ)(hn:n<18446744073709551616)(ae:k<=8):
  jV jI 179 #[ng nI n,ng nH k] w λe w'=>e=nE (nk (some ⟨w.heap.size,0,none⟩) k k)/\
   oD w' w.heap.size 5 (nk (some ⟨w.heap.size,0,none⟩) k k) (vJ k n)/\jS w.heap.size w w':=by
 obtain⟨Y,hi,N,O,Q⟩:=info_parts Ch.hi;obtain⟨B,hB⟩:=nT w.heap.size;have E:B<=w.heap.size:=nK;rw[hB];have af:=jH hB;go_in;go_wp2_with (refine wpList_make_full _ rfl (.tmp 7) (.tmp 7) 86 rfl B 5 Y (.int .u8 0) 1 l8 hi N O .i64 .i64 k k k rfl rfl rfl rfl (by rw[Q];omega) zg E ?_;intro w1 A C);rw[hB]at A;have U:jW ((madeCells (lT .u8 0).cells (k*1)).toList=xQ k 0 n):=by
  unfold jW xQ;rw[show(lT .u8 0).cells=#[ng .u8 0]from rfl,toList_madeCells_one];simp[vJ,nU]
 rw[U.out]at A;have J:jS B w w1:=(jT _ _).grown C E (λ_ h=>by cases h);go_loopw [10] (λi wr=>∃j:Nat,j<=k/\i=ng nH j/\wr.ownsRow B 5 1 (nk (some ⟨B,0,none⟩) k k) k (xQ k j n)/\jS B w wr) (λi _=>k -(kW i).toNat);case atStart=>exact⟨0,nK,rfl,A,J⟩
 case round=>
  obtain⟨j,ag,rfl,ho,I⟩:=hrel;by_cases c:j<k
  .have V:wr.cell? ⟨B,j,none⟩=some (ng .u8 0):=by rw[ho.cellAt j nK,O5 k j n c]
   have aa:=ho.frozenAt j;have Z:jW (((n:Int)/2^(8*j) % 256)=((n/256^j % 256:Nat):Int)):=by unfold jW;rw[O4];rfl
   have hst:=ho.stored j (ng .u8 ((n/256^j % 256:Nat):Int));rw[Mg k j n c]at hst;go_wp2_with fail;go_roundw;case rel=>rw[Z.out];exact⟨j+1,nK,by go_num,hst.1,I.setCell (p:=⟨B,j,none⟩) (jL _) _⟩
   case measure=>simp[kW];omega
  .obtain rfl:j=k:=nK
   go_wp2_with fail;go_returns;refine⟨rfl,?_,I⟩;have e:xQ j j n=nU (vJ j n):=by unfold xQ;simp
   unfold oD;rw[pF,<-e];exact ho
theorem uX(n k:Nat)(w:jJ)(hn:n<18446744073709551616)(C:1<=k)(A:k<=8)(h:n<256^k):
  jV jI 129 #[ng nI n,ng nH k] w λe w'=>e=nE (nD #[ny ⟨(vJ k n).toArray⟩,ng nH 0])/\jS w.heap.size w w':=by
 have c1:=jH (a0i n k w hn C A h);have c2:=jH (FQ n k w hn A);clear h;go_in;go_wp2_with fail;refine c1.mono ?_;rintro e w' ⟨rfl,rfl⟩;go_wp2_with fail;refine c2.mono ?_;rintro e w1 ⟨rfl,ho,hb⟩;have hst:=ho.string Ch;go_wp2_with fail;go_returns;exact⟨rfl,hb⟩
theorem Bu{p:Prop}(h:p:=by
 go_in;go_wp2_with fail;go_returns;exact⟨rfl,rfl⟩):p:=h
theorem IB(w:jJ):jV jI 127 #[ng nH 0] w λe w'=>e=nE (ng nH 1)/\w=w':=by
 exact Bu
theorem IC(k:Nat)(w:jJ)(h:8<k):jV jI 127 #[ng nH k] w λe w'=>e=nE (ng nH 5)/\w=w':=by
 have h0:((k:Int)==0)=false:=wL;exact Bu
theorem Eu(k:Nat)(w:jJ)(A:1<=k)(h:k<=8):jV jI 127 #[ng nH k] w λe w'=>e=nE (ng nH 0)/\w=w':=by
 have h0:((k:Int)==0)=false:=wL;exact Bu
theorem a2K(n b j:Nat)(C:j<=7)(hn:n<256^j)(hb:b<256):
  bits BinOp.or IntKind.u64 (n:Int) (IntKind.u64.wrap ((b:Int)*2^(8*j)))=((n+256^j*b:Nat):Int):=by
 have hp:256^j<=72057594037927936:=kg (lq nN C) nN;have E:=Nat.mul_le_mul (show b<=255 by omega) hp;rw[O4,<-Int.natCast_mul,IntWalk.u64_in _ ⟨nK,nK⟩,u64_or_nat n (b*256^j) nK nK];congr 1;have A:n<2^(8*j):=by rw[Nat.pow_mul];exact hn
 have:=mO A b;rw[Nat.pow_mul]at this;rw[Nat.or_comm,Nat.mul_comm,show(256:Nat)=2^8 from rfl,<-this,Nat.add_comm]
theorem VZ(s:ByteArray)(k:Nat)(h:k<s.size):s.data.toList.take (k+1)=s.data.toList.take k++[s[k]]:=by
 rw[List.take_succ_eq_append_getElem (by simpa using h)];rfl
theorem Mi(k:Nat)(h:k<=8):256^k<=18446744073709551616:=kg (lq nN h) nN
theorem Rm{p:Prop}(h:p:=by
 go_wp2_with fail;go_round;case rel=>exact⟨k+1,_,nK,by go_num,by rw[hor.out],hnx⟩
 case measure=>simp[kW];omega):p:=h
theorem Rn{p:Prop}(h:p:=by
 obtain rfl:k=s.size:=nK;go_wp2_with fail;go_returns;exact⟨by rw[hv.out,List.take_of_length_le nR];rfl,rfl⟩):p:=h
theorem tC(s:ByteArray)(w:jJ)(C:1<=s.size)(E:s.size<=8):
  jV jI 93 #[ny s] w λe w'=>e=nE (nD #[ng nI (pU s.data.toList),ng nH 0])/\w=w':=by
 have c1:=jH (Eu s.size w C E);go_in;go_wp2_with fail;refine c1.mono ?_;rintro e w' ⟨rfl,rfl⟩;go_wp2_with fail;go_loop [5,15] (λacc i=>∃k n:Nat,k<=s.size/\i=ng nH k/\acc=ng nI n/\jW (n=pU (s.data.toList.take k))) (λ_ i=>s.size -(kW i).toNat);case atStart=>exact⟨0,0,nK,rfl,rfl,by simp[pU,jW]⟩
 case round=>
  obtain⟨k,n,hk,rfl,rfl,hv⟩:=hrel;by_cases c:k<s.size
  .have hb:s[k].toNat<=255:=by have:=s[k].toNat_lt;omega
   have A:(s.data.toList.take k).length=k:=by rw[kY];simp;omega
   have hn:n<256^k:=by have:=uG (s.data.toList.take k);rw[A]at this;rw[hv.out];exact this
   have hor:=jH (a2K n s[k].toNat k nK hn nK);have hnx:jW (n+256^k*s[k].toNat=pU (s.data.toList.take (k+1))):=by unfold jW;rw[VZ s k c,TG,hv.out,A]
   clear hn A;exact Rm
  .exact Rn
theorem wM(s:ByteArray)(w:jJ)(h:s.size=0):
  jV jI 93 #[ny s] w λe w'=>e=nE (nD #[ng nI 0,ng nH 1])/\w=w':=by
 have c1:=jH (IB w);go_in;go_wp2_with fail;refine c1.mono ?_;rintro e w' ⟨rfl,rfl⟩;go_wp2_with fail;go_returns;exact⟨rfl,rfl⟩
theorem Bv(s:ByteArray)(w:jJ)(h:8<s.size):
  jV jI 93 #[ny s] w λe w'=>e=nE (nD #[ng nI 0,ng nH 5])/\w=w':=by
 have c1:=jH (IC s.size w h);go_in;go_wp2_with fail;refine c1.mono ?_;rintro e w' ⟨rfl,rfl⟩;go_wp2_with fail;go_returns;exact⟨rfl,rfl⟩
def tT(l:List UInt8):Nat×Nat×Nat:=
 if(om l 0 0).2.2=0 then if 4294967295<(om l 0 0).1 then(0,0,5)else om l 0 0 else(0,0,(om l 0 0).2.2)
theorem Bw{p:Prop}(h:p:=by
 go_in;go_wp2_with fail;refine(C1 _).mono ?_;rintro e w' ⟨rfl,rfl⟩;go_wp2_with fail;go_returns;exact⟨rfl,rfl⟩):p:=h
theorem TH(s:ByteArray)(w:jJ)(hs:s.size<=j5):
  jV jI 188 #[ny s] w λe w'=>e=nE (nD #[ng nH (tT s.data.toList).1,ng nH (tT s.data.toList).2.1,ng nH (tT s.data.toList).2.2])/\w=w':=by
 have c1:=λw=>Cg s w hs
 have hp:tT s.data.toList=if(om s.data.toList 0 0).2.2=0 then if 4294967295<(om s.data.toList 0 0).1 then(0,0,5)else om s.data.toList 0 0 else(0,0,(om s.data.toList 0 0).2.2):=rfl
 have hlt:=λN K h=>(tQ (l:=s.data.toList) (N:=N) (K:=K) h).2.1
 unfold j5 at hs;generalize tT s.data.toList=r at*;generalize om s.data.toList 0 0=t at*;obtain⟨n,k,e⟩:=t;have C1:jW (∀w,jV jI 126 #[ny s] w λC w'=>C=nE (nD #[ng nI n,ng nH k,ng nH e])/\w=w'):=c1;clear c1;by_cases he:e=0
 .subst he
  have hn:=hlt n k rfl;clear hlt;rw[if_pos rfl]at hp;by_cases A:4294967295<n
  .rw[if_pos A]at hp
   subst hp;exact Bw
  .rw[if_neg A]at hp
   subst hp;have J:n<=4294967295:=nK;clear A;exact Bw
 .rw[if_neg he]at hp
  subst hp;have E:((e:Int)==0)=false:=wL;have I:((e:Int) !=0)=true:=FL;clear he hlt;exact Bw
theorem TI{l:List UInt8}{n k:Nat}(h:tT l=(n,k,0)):k<=l.length/\n<=4294967295:=by
 unfold tT at h;split at h
 .rename_i h0
  split at h;.cases h
  .rename_i A
   have:=tQ (l:=l) (N:=n) (K:=k) (by rw[h]);rw[h]at A;exact⟨nK,by simpa using A⟩
 .rename_i h0
  injection h with _ h
  injection h with _ h
  exact absurd h h0
def vK(r:RS)(n:Int):Nat:=pU (r.take n).2.data.toList
theorem take_size(r:RS)(n:Nat):(r.take n).2.size<=n:=by
 unfold RS.take;split
 .split
  .exact kI _
  .split
   .exact kI _
   .simp[kz];omega
 .exact kI _
theorem J9(r:RS)(n:Nat)(h:n<=8):(r.take n).2.size=0\/(1<=(r.take n).2.size/\(r.take n).2.size<=8):=by
 have:=take_size r n;omega
theorem Mj(b U:Nat)(r:RS)(x:Int)(n:Nat)(w:jJ)(V:r.Ok)(hb:wo w b r)(c0:w.cell? ⟨U,0,none⟩=some (nz (some ⟨b,0,none⟩)))(ae:x=n)(hn:n<=4):
  jV jI 223 #[ng nH x,nz (some ⟨U,0,none⟩)] w (zw b w (r.take x).1 (ng nH (vK r x:Nat))):=by
 subst ae;have af:=jH (qg b r n w V hb);have hlt:vK r n<4294967296:=by
  have A:=uG (r.take n).2.data.toList;have ag:(r.take n).2.data.toList.length<=4:=by
   rw[kV];have:=take_size r n;show(r.take n).2.size<=4;omega
  exact kG A (kg (lq nN ag) nN)
 have Y:=J9 r n nK;have C:=λw A J=>tC (r.take n).2 w A J
 have E:=λw h=>wM (r.take n).2 w h
 have N:vK r n=pU (r.take n).2.data.toList:=rfl;generalize vK r n=ah at*;generalize (r.take n).2=T at*;generalize (r.take n).1=r' at*;have O:∀w,jV jI 93 #[ny T] w λe w'=>(∃er:Int,e=nE (nD #[ng nI (ah:Nat),ng nH er]))/\w=w':=λw=>by
  rcases Y with h0|⟨A,J⟩
  .have:ah=0:=by rw[N,List.eq_nil_of_length_eq_zero (show T.data.toList.length=0 by simpa using h0)];rfl
   subst this;exact(E w h0).mono λe w' ⟨h,Q⟩=>⟨⟨_,h⟩,Q⟩
  .rw[N]
   exact(C w A J).mono λe w' ⟨h,Q⟩=>⟨⟨_,h⟩,Q⟩
 have O:=jH O;clear Y C E N V;unfold zw at*;go_in;go_wp2_with fail;refine af.mono ?_;rintro e w2 ⟨rfl,Z,I⟩;have aa:=jH (jU Z I);clear Z I;go_wp2_with fail;refine(O _).mono ?_;rintro e w3 ⟨⟨er,rfl⟩,rfl⟩;go_wp2_with fail;go_returns;exact⟨rfl,aa.1,aa.2⟩
abbrev wN:ko:=5
abbrev VJ:ko:=86
theorem own_ne{w:jJ}{B b:Nat}{v:jP}{l:List UInt8}{cs:Array jP}{t:ko}(h:oD w B wN v l)(hb:nO w b cs t)(ht:t≠wN):v.ownBlock≠some b:=by
 intro e;rcases h.2 with⟨rfl,_⟩|⟨g,cap,C,rfl,hg,A,_⟩
 .simp[kJ]at e
 .simp only[kJ,mI]at e
  subst e;unfold nO at hb;rw[A]at hb;simp at hb;exact ht hb.2.symm
def rH(k v:Nat)(r:RS):RS×Nat×Nat:=
 if k=0 then if 60<=v then((r.take ((v:Int) - 59)).1,vK r ((v:Int) - 59)+1,0)else(r,v+1,0)
 else if k=1 then((r.take 1).1,4+v % 8,v/8*256+vK r 1)
 else if k=2 then((r.take 2).1,v+1,vK r 2)
 else((r.take 4).1,v+1,vK r 4)
def vY:Nat->Nat->Nat->List UInt8->List UInt8
 |0,_,_,l=>l
 |f+1,n,A,l=>if n=0 then l else vY f (n - min n A) A (l++(l.drop (l.length - A)).take (min n A))
def uj(k:Nat)(h:RS×Nat×Nat)(l:List UInt8)(size:Nat):RS×List UInt8:=
 if h.1.f≠0 then(h.1,l)
 else if(k≠0/\(h.2.2=0\/l.length<h.2.2))\/size - l.length<h.2.1 then(h.1.fail 3,l)
 else if k=0 then((h.1.take (h.2.1:Nat)).1,l++(h.1.take (h.2.1:Nat)).2.data.toList)
 else(h.1,vY h.2.1 h.2.1 h.2.2 l)
def rR(r:RS)(l:List UInt8)(size:Nat):RS×List UInt8:=uj (r.byte.2.toNat % 4) (rH (r.byte.2.toNat % 4) (r.byte.2.toNat/4) r.byte.1) l size
structure Ka(B b:Nat)(w0:jJ)(r:RS)(v:jP)(l:List UInt8)(w:jJ):Prop where
 own:oD w B wN v l
 rd:wo w b r
 ok:r.Ok
 hB:B<=b
 qa:jS B w0 w
abbrev CRT:ko:=220
theorem a2L:CRT≠wN:=nN
section
variable {B b:Nat}{w0 w w':jJ}{r r':RS}{v:jP}{l:List UInt8}
theorem Ka.lt(h:Ka B b w0 r v l w):b<w.heap.size:=nO.lt h.rd
theorem Ka.below(h:Ka B b w0 r v l w)(hb:jS w.heap.size w w'):Ka B b w0 r v l w':=
 ⟨h.own.below hb,Below.blk hb h.rd h.lt,h.ok,h.hB,h.qa.trans (hb.mono (kg h.hB (Nat.le_of_lt h.lt)))⟩
theorem Ka.ne(h:Ka B b w0 r v l w):v.ownBlock≠some b:=own_ne h.own h.rd a2L
theorem Ka.read(h:Ka B b w0 r v l w)(C:pE b w w')(N:wo w' b r')(hok:r'.Ok):Ka B b w0 r' v l w':=by
 refine⟨?_,N,hok,h.hB,C.below h.qa h.hB (kg h.hB (Nat.le_of_lt h.lt))⟩;obtain⟨O,A⟩:=h.own;refine⟨O,?_⟩;rcases A with A|⟨g,cap,E,I,hg,J,r⟩
 .exact .inl A
 .refine .inr ⟨g,cap,E,I,hg,?_,r⟩
  rw[C.block g (ku.1 J).1 (by
   have:=h.ne;rw[I]at this;simpa [kJ,eq_comm]using this)]
  exact J
theorem Ka.grow{m:List UInt8}{v':jP}(h:Ka B b w0 r v l w)(ho:oD w' B wN v' (l++m))(hg:w.grownBy w' v.ownBlock):Ka B b w0 r v' (l++m) w':=by
 refine⟨ho,?_,h.ok,h.hB,h.qa.grown hg (kg h.hB (Nat.le_of_lt h.lt)) λk hk=>(h.own.lt k hk).1⟩;unfold wo nO;rw[hg.block b h.lt (λe=>h.ne e.symm)];exact h.rd
end
theorem DI(T:ByteArray):T.size=T.data.toList.length:=nR
theorem a0j{w:jJ}{B M cp:Nat}{I:Option l5}{l:List UInt8}(Q:l.length=M)(h:oD w B wN (nk I M cp) l):M<=cp/\cp<=j5:=by
 rcases h.2 with⟨A,h0⟩|⟨g,cap,O,A,hg,U,J,N,_⟩
 .injection A with _ C E
  subst C E;exact⟨jL _,kI _⟩
 .injection A with _ C E
  subst C E;exact⟨nK,N⟩
theorem Bz:(Tryz.prog.info? wN).map (λi=>(i.zero,i.size,i.bytes))=some (some (ng .u8 0),1,1):=nM
theorem Mk(r:RS)(n:Nat)(h:n<=4):vK r n<256^n:=by
 have A:=uG (r.take n).2.data.toList;have C:(r.take n).2.data.toList.length<=n:=by
  rw[kV];have:=take_size r n;show(r.take n).2.size<=n;omega
 exact kG A (lq nN C)
theorem a0k(r:RS)(n:Nat)(h:n<=4):vK r n<4294967296:=kG (Mk r n h) (kg (lq nN h) nN)
theorem a2M(r:RS):vK r 1<256:=Mk r 1 nN
theorem V3:∀q:Fin 256,bits BinOp.and IntKind.u8 (q.val:Int) 3=((q.val % 4:Nat):Int):=yc
theorem a7E(q:Nat)(h:q<=255):bits BinOp.and IntKind.u8 (q:Int) 3=((q % 4:Nat):Int):=V3 ⟨q,nK⟩
theorem V4(r:RS):∃q:Nat,r.byte.2=(q:Int)/\q<=255:=by
 unfold RS.byte;split
 .split
  .rename_i h
   exact⟨r.t[r.p].toNat,rfl,by have:=r.t[r.p].toNat_lt;omega⟩
  .exact⟨0,rfl,nK⟩
 .exact⟨0,rfl,nK⟩
theorem Kb{p:Prop}(h:p:=by
 go_wp2_with fail;refine CF.mono ?_;rintro e w4 ⟨rfl,rfl⟩;go_wp2_with fail;refine CX.mono ?_;rintro e w5 ⟨rfl,hu,hr⟩;have HF:=jH (H3.read hu hr a2N);clear hu hr;go_wp2_with fail;go_returns;exact⟨_,rfl,by rw[HR.out];exact HF.out⟩):p:=h
theorem V5{p:Prop}(h:p:=by
 clear CL Z4;go_wp2_with fail;refine CLL.mono ?_;rintro e w3 ⟨rfl,hu,hr⟩;have H3:=jH (H2.read hu hr Ml);have HB3:=jH (hu.blk TJ hbg);clear hu hr;go_wp2_with fail;go_meet;exact⟨v+1,X,r2,by congr 1,rfl,nK,nK,HH,H3,HB3⟩):p:=h
theorem Kc(B b:Nat)(w0:jJ)(r:RS)(v:jP)(l:List UInt8)(size:Nat)(w:jJ)(h:Ka B b w0 r v l w)(hl:l.length<=size)(hs:size<=65536):
  jV jI 190 #[nz (some ⟨b,0,none⟩),v,ng nH size] w λe w'=>∃v',e=nE v'/\Ka B b w0 (rR r l size).1 v' (rR r l size).2 w':=by
 have H:=jH h;obtain⟨g,hg⟩:=nT w.heap.size;obtain⟨L,hL⟩:=nT l.length;have V:=jH hL;obtain⟨oa,cap,rfl⟩:∃oa cap,v=nk oa L cap:=by
  rcases h.own.2 with⟨rfl,h0⟩|⟨g,cap,bE,rfl,_⟩
  .exact⟨none,0,by rw[<-hL,h0]⟩
  .exact⟨_,_,by rw[<-hL]⟩
 have cZ:∀(fn:Fn)(first cap:Array jP)(w:jJ),(mG fn first cap).run jI w=.ok (.func fn first cap) w:=λ_ _ _ _=>rfl
 have av:=nO.new w #[nz (some ⟨b,0,none⟩)] 193;have aO:=(jT w.heap.size w).alloc (jL _) (nG #[nz (some ⟨b,0,none⟩)] 193);have ax:=jH (h.below aO);have aX:=h.lt;rw[hg]at av aX;rw[hL]at hl;have ay:=jH av;obtain⟨R,aY⟩:=nT (rR r l size);have HR:=jH aY;rw[aY];clear h hL av aO aY;go_in;go_upto_region 1 with fail;generalize w.alloc _=w1 at*;have c0:=ay.c0;have aK:=jH (L6 b r w1 ax.ok ax.rd);unfold zw at aK;obtain⟨r1,au⟩:=nT r.byte.1;obtain⟨q,aZ,bF⟩:∃q:Nat,r.byte.2=(q:Int)/\q<=255:=V4 r;have aL:jW (R=uj (q % 4) (rH (q % 4) (q/4) r1) l size):=jH (by rw[<-HR.out];unfold rR;rw[au,aZ];rfl);have O:jW r1.Ok:=jH (au▸ax.ok.byte);rw[au,aZ]at aK;clear au aZ HR;go_wp2_with fail;refine aK.mono ?_;rintro e w2 ⟨rfl,az,aP⟩;have hbg:g≠b:=nK;have TJ:=jH (az.blk ay hbg);have H2:=jH (ax.read az aP O);clear az aP c0 aK ax ay H;have c0:=TJ.c0;go_upto_block 0 with fail;obtain⟨k,hk⟩:=nT (q % 4);obtain⟨v,bG⟩:=nT (q/4);have e1:bits BinOp.and IntKind.u8 (q:Int) 3=(k:Int):=by rw[a7E q bF,hk]
 have e2:(q:Int)/4=(v:Int):=nK;simp only[e1,e2];have bg:v<=63:=nK;have bH:k<4:=nK;rw[hk,bG]at aL;clear e1 e2 hk bG;have dD:=jH (jU bg bH);go_cut [11,12] (λaA bv bI=>∃(n A:Nat) (r2:RS),aA=ng nH (n:Int)/\bv=ng nH (A:Int)/\n<=4294967296/\A<=4294967296/\jW (rH k v r1=(r2,n,A))/\jW (Ka B b w0 r2 (nk oa L cap) l bI)/\jW (nO bI g #[nz (some ⟨b,0,none⟩)] 193));case first=>
  have CL:=jH (λ(x:Int) (n:Nat) hx hn=>Mj b g r1 x n w2 O H2.rd c0 hx hn);have Z4:=jH (λ(n:Nat) hn=>a0k r1 n hn);unfold zw at CL;clear aL V;obtain rfl|rfl|rfl|rfl:k=0\/k=1\/k=2\/k=3:=nK
  .by_cases aQ:60<=v
   .have bq:(v:Int) - 59=((v - 59:Nat):Int):=nK
    have CLL:=jH (CL ((v:Int) - 59) (v - 59) bq nK);have hlt:=Z4.out (v - 59) nK;rw[<-bq]at hlt;have HH:jW (rH 0 v r1=((r1.take ((v:Int) - 59)).1,vK r1 ((v:Int) - 59)+1,0)):=jH (by unfold rH;rw[if_pos rfl,if_pos aQ]);have Ml:=jH (O.take ((v:Int) - 59));generalize vK r1 ((v:Int) - 59)=X at*;generalize (r1.take ((v:Int) - 59)).1=r2 at*;clear bq CL Z4;go_wp2_with fail;refine CLL.mono ?_;rintro e w3 ⟨rfl,hu,hr⟩;have H3:=jH (H2.read hu hr Ml);have HB3:=jH (hu.blk TJ hbg);clear hu hr;go_wp2_with fail;go_meet;exact⟨X+1,0,r2,by congr 1,rfl,nK,nK,HH,H3,HB3⟩
   .have HH:jW (rH 0 v r1=(r1,v+1,0)):=jH (by unfold rH;rw[if_pos rfl,if_neg aQ])
    clear CL Z4;go_wp2_with fail;go_meet;exact⟨v+1,0,r1,by congr 1,rfl,nK,nK,HH,H2,TJ⟩
  .have CLL:=jH (CL 1 1 rfl nN)
   have hlt:=Z4.out 1 nN;have HH:jW (rH 1 v r1=((r1.take 1).1,4+v % 8,v/8*256+vK r1 1)):=jH rfl;have Ml:=jH (O.take 1);have hlt:vK r1 1<4294967296:=hlt;have bU:=a2M r1;generalize vK r1 1=X at*;generalize (r1.take 1).1=r2 at*;clear CL Z4;go_wp2_with fail;refine CLL.mono ?_;rintro e w3 ⟨rfl,hu,hr⟩;have H3:=jH (H2.read hu hr Ml);have HB3:=jH (hu.blk TJ hbg);clear hu hr;go_wp2_with fail;go_meet;exact⟨4+v % 8,v/8*256+X,r2,by congr 1,by congr 1,nK,nK,HH,H3,HB3⟩
  .have CLL:=jH (CL 2 2 rfl nN)
   have hlt:vK r1 2<4294967296:=Z4.out 2 nN;have HH:jW (rH 2 v r1=((r1.take 2).1,v+1,vK r1 2)):=jH rfl;have Ml:=jH (O.take 2);generalize vK r1 2=X at*;generalize (r1.take 2).1=r2 at*;exact V5
  .have CLL:=jH (CL 4 4 rfl nN)
   have hlt:vK r1 4<4294967296:=Z4.out 4 nN;have HH:jW (rH 3 v r1=((r1.take 4).1,v+1,vK r1 4)):=jH rfl;have Ml:=jH (O.take 4);generalize vK r1 4=X at*;generalize (r1.take 4).1=r2 at*;exact V5
 case rest=>
  obtain⟨n,A,r2,rfl,rfl,hn,bT,HH,H3,HB3⟩:=hcut;have U:jW (R=uj k (r2,n,A) l size):=jH (by rw[aL.out,HH.out]);have CF:=jH (qc b r2 wc H3.rd);have bV:=HB3.c0;clear aL HH H2 TJ O c0;by_cases aa:r2.f=0;case neg=>
   have HR:jW (R=(r2,l)):=jH (by rw[U.out];unfold uj;rw[if_pos aa]);have df:(r2.f !=0)=true:=by simp[aa]
   clear aa U;go_wp2_with fail;refine CF.mono ?_;rintro e w4 ⟨rfl,rfl⟩;go_wp2_with fail;go_returns;exact⟨_,rfl,by rw[HR.out];exact H3.out⟩
  rw[aa]at CF;by_cases E:(k≠0/\(A=0\/L<A))\/size - L<n
  .have HR:jW (R=(r2.fail 3,l)):=jH (by rw[U.out];unfold uj;rw[if_neg (by simpa using aa),if_pos (by rw[V.out];exact E)])
   have CX:=jH (ui b r2 3 wc H3.rd);have a2N:=jH (H3.ok.fail 3);generalize r2.fail 3=r3 at*;have dh:=jH E;have bJ:(k=0/\((k:Int) !=0)=false/\size - L<n)\/(((k:Int) !=0)=true/\A=0)\/(((k:Int) !=0)=true/\((A:Int)==0)=false/\L<A)\/(((k:Int) !=0)=true/\((A:Int)==0)=false/\A<=L/\size - L<n):=by
    by_cases N:k=0;.exact .inl ⟨N,by simp[N],E.elim (λh=>absurd N h.1) id⟩
    .have e1:((k:Int) !=0)=true:=by simp[N]
     by_cases hb0:A=0;.exact .inr (.inl ⟨e1,hb0⟩)
     .have e2:((A:Int)==0)=false:=by simp[hb0]
      by_cases aR:L<A;.exact .inr (.inr (.inl ⟨e1,e2,aR⟩))
      .exact .inr (.inr (.inr ⟨e1,e2,nK,E.elim (λh=>by omega) id⟩))
   clear E U aa V;rcases bJ with⟨rfl,e1,e3⟩|⟨e1,rfl⟩|⟨e1,e2,e3⟩|⟨e1,e2,e3,e4⟩
   .exact Kb
   .exact Kb
   .exact Kb
   .exact Kb
  .have dw:L+n<=size:=nK
   by_cases N:k=0
   .subst N
    have HR:jW (R=((r2.take (n:Nat)).1,l++(r2.take (n:Nat)).2.data.toList)):=jH (by rw[U.out];unfold uj;rw[if_neg (by simpa using aa),if_neg (by rw[V.out];exact E),if_pos rfl]);have bK:=jH (qg b r2 n wc H3.ok H3.rd);have Ml:=jH (H3.ok.take n);have dx:=take_size r2 n;unfold zw at bK;generalize (r2.take (n:Nat)).1=r3 at*;generalize (r2.take (n:Nat)).2=bu at*;obtain⟨bz,hi,aB,aC,aD⟩:=info_parts Bz;clear E U aa;go_wp2_with fail;refine CF.mono ?_;rintro e w4 ⟨rfl,rfl⟩;go_wp2_with fail;refine bK.mono ?_;rintro e w5 ⟨rfl,hu,hr⟩;have aM:=jH (H3.read hu hr Ml);have C:=jH aM.own;have aF:B<=w5.heap.size:=kg aM.hB (Nat.le_of_lt aM.lt);clear hu hr;unfold oD at C;rw[V.out]at C;go_wp2_with (at_builtin;refine Lib.wpList_append_own_string _ rfl _ _ 86 9 rfl B 5 bz l8 mR hi aB aC aD _ _ _ rfl C bu rfl ?c3 ?c4 ?c5 ?_);case c3=>unfold j5;omega
    case c4=>omega
    case c5=>exact aF
    intro v' bW Q af _;have HF:=jH (aM.grow (m:=bu.data.toList) (v':=v') (by unfold oD;rw[jY,V.out,pg,<-DI bu];exact Q) af);clear Q af;go_wp2_with fail;go_returns;exact⟨_,rfl,by rw[HR.out];exact HF.out⟩
   .have e1:((k:Int) !=0)=true:=by simp[N]
    have hb0:1<=A/\A<=L:=nK;obtain⟨aR,bL⟩:=hb0;have e2:((A:Int)==0)=false:=nQ;have e3:((k:Int)==0)=false:=by simp[N]
    have e4:decide (L<A)=false:=decide_eq_false nK;have e5:decide ((size:Int) -(L:Int)<(n:Int))=false:=decide_eq_false nK;have HR:jW (R=(r2,vY n n A l)):=jH (by rw[U.out];unfold uj;rw[if_neg (by simpa using aa),if_neg (by rw[V.out];exact E),if_neg N]);obtain⟨aG,aj⟩:=nT (vY n n A l);rw[aj]at HR;have bM:=jH aj;obtain⟨bA,bN⟩:∃bA,oa=some ⟨bA,0,none⟩:=by
     rcases H3.own.2 with⟨aS,h0⟩|⟨g,cap,bE,aS,_⟩
     .have:=V.out;omega
     .injection aS with aN _ _;exact⟨g,aN⟩
    subst bN;obtain⟨bz,hi,aB,aC,aD⟩:=info_parts Bz;have bO:L+n<=65536:=nK;clear E U aa N aj;go_wp2_with fail;refine CF.mono ?_;rintro e w4 ⟨rfl,rfl⟩;go_wp2_with fail;clear bV CF;go_loopw [1,11] (λlv aA bX=>∃(Z cp I F:Nat) (J:List UInt8),lv=nk (some ⟨Z,0,none⟩) J.length cp/\aA=ng nH (I:Int)/\J.length+I<=65536/\A<=J.length/\jW (I<=F/\vY F I A J=aG)/\jW (Ka B b w0 r2 (nk (some ⟨Z,0,none⟩) J.length cp) J bX)) (λ_ aA _=>(kW aA).toNat);case atStart=>exact⟨bA,cap,n,n,l,by rw[V.out],rfl,by rw[V.out];omega,by rw[V.out];exact bL,jH ⟨jL _,bM.out⟩,by rw[V.out];exact H3⟩
    case round=>
     obtain⟨Z,cp,I,F,J,rfl,rfl,bP,bQ,aH,ag⟩:=hrel;clear H3;obtain⟨M,bB⟩:=nT J.length;have ae:=jH bB;rw[bB]at bP bQ ag⊢;clear bB;by_cases aT:I=0
     .subst aT
      have bY:jW (J=aG):=jH (by have:=aH.2;cases F<;>simpa [vY]using this);go_wp2_with fail;go_returns;refine⟨_,rfl,?_⟩;rw[HR.out,<-bY.out];exact ag
     .have aU:M<=cp/\cp<=j5:=a0j ae ag.own
      have bZ:0<I:=nK;unfold j5 at aU;obtain⟨cz,cK⟩:=aU;clear aT;go_upto_region 23 with fail;go_upto_region 25 with fail;obtain⟨p,hp⟩:=nT (min I A);have aI:(if A<I then(A:Int)else(I:Int))=(p:Int):=by split<;>omega
      simp only[aI,Int.toNat_natCast];have aV:1<=p/\p<=A/\p<=I:=nK;obtain⟨aV,dz,dA⟩:=aV;obtain⟨part,Y⟩:=nT ((J.drop (M - A)).take p);have aW:part.length=p:=by rw[<-Y,kY,kS,ae.out];omega
      obtain⟨ak,rfl⟩:∃ak,F=ak+1:=⟨F - 1,by have:=aH.1;omega⟩;have bR:jW (I - p<=ak/\vY ak (I - p) A (J++part)=aG):=jH ⟨by have:=aH.1;omega,by
       have aN:=aH.2;rw[show vY (ak+1) I A J=if I=0 then J else vY ak (I - min I A) A (J++(J.drop (J.length - A)).take (min I A))from rfl,if_neg nK,hp,ae.out,Y]at aN;exact aN⟩
      have ah:jW (∀j u,(nU part)[j]? =some u->wr.cell? ((⟨Z,M - A,none⟩:l5).add j)=some u):=jH λj u bS=>by
       have e1:(⟨Z,M - A,none⟩:l5).add j=⟨Z,M - A+j,none⟩:=FM;have e2:(⟨Z,0,none⟩:l5).add (M - A+j)=⟨Z,M - A+j,none⟩:=FM;rw[e1,<-e2];have dB:j<part.length:=by have:=(ll.1 bS).1;simpa using this
       have C:=ag.own;refine World.ownsRow.cells C (g:=Z) rfl (M - A+j) u ?_;rw[<-bS];unfold nU;rw[List.getElem?_map,List.getElem?_map];congr 1;rw[<-Y,List.getElem?_take_of_lt nK,List.getElem?_drop]
      have C:=jH ag.own;unfold oD at C;rw[ae.out]at C;have aF:B<=wr.heap.size:=kg ag.hB (Nat.le_of_lt ag.lt);have dC:100000<=j5:=yc;have ai:=jH aW;clear hp aI Y aW aH;go_upto_region 26 with(at_builtin;go_loud (refine wpList_append_lies wr rfl _ _ VJ rfl B wN bz (.int .u8 0) 1 1 l8 hi aB aC aD rfl nN (.slice (some ⟨Z,0,none⟩) M cp) M (nU J) rfl C ⟨Z,M - A,none⟩ p _ (nU part) rfl (by rw[qW,ai.out];omega) ah (rM _) nK nK nK aF _ rfl ?_);intro g2 aJ bW Q af bC bD)
      have HF:=jH (ag.grow (m:=part) (v':=nk (some ⟨g2,0,none⟩) (M+p) aJ) (by unfold oD;rw[jY,ae.out,ai.out,pg];exact Q) af);clear Q af bC bD C ah;go_wp2_with fail;go_roundw;case rel=>exact⟨g2,aJ,I - p,ak,J++part,by rw[jY,ae.out,ai.out],by congr 1;omega,by rw[jY,ae.out,ai.out];omega,by rw[jY,ae.out];omega,bR,by rw[jY,ae.out,ai.out];exact HF⟩
      case measure=>simp[kW];omega
end
end Go.Proofs.YtamfcjmhnndbdaaGreatDoor


