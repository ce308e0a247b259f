/- Part 0 of the proof. -/
import Derived.WalkKit
import Derived.Lib.Hide
import Derived.Handy
import Derived.Deep.QuietTactic
import Derived.Laws.IdiomStrings
import Derived.Laws.BytesArg
import Derived.BigQuiet
import Derived.StillTail
import Derived.Test.YtamfcjmhnndbdaaGreatDoorRows
import Derived.WalkSpells
import Derived.RegionTactic
import Derived.BigRegion
import Derived.ChangeAlike
import Derived.Lib.Strings
import Derived.OwnWalk
import Derived.Laws.BitsAllLaws
import Derived.Deep.AppendLies
import Derived.Lib.AppendStr
import Derived.Deep.CutBlock
import Derived.Deep.DeepCutAuto
import Derived.StillTailTactics
open Go.Obj renaming cells→lG
open Go.IntKind renaming i64→lH,u64→lI
open Go.Value renaming int→lg,pointer→lq,slice→lh,string→ll,tuple→lD,ownBlock→jw
open Go.Ending renaming returned→lF,returned→jP
open Go.Lib renaming hid→iF
open Go.Proofs.Tryz renaming prog→iG,underlying86→kC
open Go renaming World→iH,Value→iJ,Calls→iU,maxLen→jb,TypeId→jg,Program→kg,Addr→kr,Oper→kH,wpQuiet_nil→kS
open Nat renaming le_refl→iI,le_trans→je,lt_of_lt_of_le→jq,zero_le→jy,lt_or_ge→jG,add_assoc→jI,pow_le_pow_right→jO,add_mul→j6,two_pow_add_eq_or_of_lt→kT
open Go.RowKit renaming Below→iK,Hid→iW,intOf→jA
open Go.RowKit.Below renaming refl→iL,heap_setCell→iX
open And renaming intro→iQ
open Bool renaming and_eq_true→iY
open List renaming getElem?_eq_getElem→iZ,take_succ_cons→ji,length_cons→jm,length_append→jv,take_zero→jC,getElem?_eq_some_iff→jH,length_drop→jS,replicate→jY,length_take→ky,length_eq_zero_iff→kR,drop_succ_cons→kU,size_toArray→kV
open ByteArray renaming size_extract→ja,empty→kE
open Go.World renaming setCell→jf,cell?→kZ
open Array renaming getElem?_eq_some_iff→jk,getElem?_modify→jK,length_toList→jM,replicate→jQ
open UInt8 renaming ofNat→jl
open Go.Code renaming region→jJ
open Go.Region renaming ready→jW,binds→kG
open Go.Instr renaming makeFunc→kL
open Option.some renaming injEq→kM
namespace Go.Proofs.YtamfcjmhnndbdaaGreatDoor
set_option linter.unusedVariables false
set_option linter.unusedSimpArgs false
set_option maxRecDepth 100000
set_option maxHeartbeats 8000000
variable {a:Act}{f:FuncId}{s:ByteArray}{most:Int}
theorem lV{α:Sort _}(a:α):∃b,a=b:=⟨a,rfl⟩
theorem lK{p:Prop}(h:p:=by omega):p:=h
theorem lQ{p:Prop}(h:p:=by kernel_rfl):p:=h
theorem lM{p:Prop}(h:p:=by decide):p:=h
theorem lU{p:Prop}(h:p:=by simp):p:=h
theorem lW{p:Prop}(h:p:=by simp;omega):p:=h
theorem sQ{p:Prop}(h:p:=by rw[beq_eq_false_iff_ne];omega):p:=h
theorem EY{p:Prop}(h:p:=by rw[bne_iff_ne];omega):p:=h
theorem Lt{p:Prop}(h:p:=by rw[beq_iff_eq];omega):p:=h
theorem AV{p:Prop}(h:p:=by unfold jb;omega):p:=h
theorem EZ{p:Prop}(h:p:=by unfold Addr.add;split<;>simp_all):p:=h
theorem wJ{p:Prop}(h:p:=by decide+kernel):p:=h
section
open Go.RowKit
def lN(w:iH)(b:Nat)(cs:Array iJ)(t:jg):Prop:=w.heap[b]? =some (lG cs t (0,0))
theorem lN.lt{w:iH}{b:Nat}{cs:Array iJ}{t:jg}(h:lN w b cs t):b<w.heap.size:=(jk.1 h).1
theorem lN.cell{w:iH}{b:Nat}{cs:Array iJ}{t:jg}(h:lN w b cs t)(i:Nat):w.cell? ⟨b,i,none⟩=cs[i]? :=by
 unfold lN at h;simp[kZ,h]
theorem lN.c0{w:iH}{b:Nat}{A:iJ}{l:List iJ}{t:jg}(h:lN w b (A::l).toArray t):w.cell? ⟨b,0,none⟩=some A:=h.cell 0
theorem lN.c1{w:iH}{b:Nat}{C A:iJ}{l:List iJ}{t:jg}(h:lN w b (C::A::l).toArray t):w.cell? ⟨b,1,none⟩=some A:=h.cell 1
theorem lN.c2{w:iH}{b:Nat}{C E A:iJ}{l:List iJ}{t:jg}(h:lN w b (C::E::A::l).toArray t):w.cell? ⟨b,2,none⟩=some A:=h.cell 2
theorem lN.c3{w:iH}{b:Nat}{C E J A:iJ}{l:List iJ}{t:jg}(h:lN w b (C::E::J::A::l).toArray t):w.cell? ⟨b,3,none⟩=some A:=h.cell 3
theorem lN.c4{w:iH}{b:Nat}{C E J N A:iJ}{l:List iJ}{t:jg}(h:lN w b (C::E::J::N::A::l).toArray t):w.cell? ⟨b,4,none⟩=some A:=h.cell 4
theorem lN.c5{w:iH}{b:Nat}{C E J N O A:iJ}{l:List iJ}{t:jg}(h:lN w b (C::E::J::N::O::A::l).toArray t):w.cell? ⟨b,5,none⟩=some A:=h.cell 5
theorem lN.c6{w:iH}{b:Nat}{C E J N O Q A:iJ}{l:List iJ}{t:jg}(h:lN w b (C::E::J::N::O::Q::A::l).toArray t):w.cell? ⟨b,6,none⟩=some A:=h.cell 6
theorem lN.c7{w:iH}{b:Nat}{C E J N O Q U A:iJ}{l:List iJ}{t:jg}(h:lN w b (C::E::J::N::O::Q::U::A::l).toArray t):w.cell? ⟨b,7,none⟩=some A:=h.cell 7
theorem lN.free{w:iH}{b:Nat}{cs:Array iJ}{t:jg}(h:lN w b cs t)(i:Nat):w.frozen? ⟨b,i,none⟩=false:=by
 unfold lN at h;simp[World.frozen?,h]
theorem lN.a10{w:iH}{b:Nat}{A C E J N O Q U V Y:iJ}{l:List iJ}{t:jg}(h:lN w b (A :: C :: E :: J :: N :: O :: Q :: U :: V :: Y::l).toArray t):w.cell? ⟨b,0,none⟩=some A/\w.cell? ⟨b,1,none⟩=some C/\w.cell? ⟨b,2,none⟩=some E/\w.cell? ⟨b,3,none⟩=some J/\w.cell? ⟨b,4,none⟩=some N/\w.cell? ⟨b,5,none⟩=some O/\w.cell? ⟨b,6,none⟩=some Q/\w.cell? ⟨b,7,none⟩=some U/\w.cell? ⟨b,8,none⟩=some V/\w.cell? ⟨b,9,none⟩=some Y:=⟨h.cell 0,h.cell 1,h.cell 2,h.cell 3,h.cell 4,h.cell 5,h.cell 6,h.cell 7,h.cell 8,h.cell 9⟩
theorem lN.a2{w:iH}{b:Nat}{A C:iJ}{l:List iJ}{t:jg}(h:lN w b (A :: C::l).toArray t):w.cell? ⟨b,0,none⟩=some A/\w.cell? ⟨b,1,none⟩=some C:=⟨h.cell 0,h.cell 1⟩
theorem lN.a3{w:iH}{b:Nat}{A C E:iJ}{l:List iJ}{t:jg}(h:lN w b (A :: C :: E::l).toArray t):w.cell? ⟨b,0,none⟩=some A/\w.cell? ⟨b,1,none⟩=some C/\w.cell? ⟨b,2,none⟩=some E:=⟨h.cell 0,h.cell 1,h.cell 2⟩
theorem lN.a4{w:iH}{b:Nat}{A C E J:iJ}{l:List iJ}{t:jg}(h:lN w b (A :: C :: E :: J::l).toArray t):w.cell? ⟨b,0,none⟩=some A/\w.cell? ⟨b,1,none⟩=some C/\w.cell? ⟨b,2,none⟩=some E/\w.cell? ⟨b,3,none⟩=some J:=⟨h.cell 0,h.cell 1,h.cell 2,h.cell 3⟩
theorem lN.a6{w:iH}{b:Nat}{A C E J N O:iJ}{l:List iJ}{t:jg}(h:lN w b (A :: C :: E :: J :: N :: O::l).toArray t):w.cell? ⟨b,0,none⟩=some A/\w.cell? ⟨b,1,none⟩=some C/\w.cell? ⟨b,2,none⟩=some E/\w.cell? ⟨b,3,none⟩=some J/\w.cell? ⟨b,4,none⟩=some N/\w.cell? ⟨b,5,none⟩=some O:=⟨h.cell 0,h.cell 1,h.cell 2,h.cell 3,h.cell 4,h.cell 5⟩
theorem lN.b1{w:iH}{b:Nat}{A:iJ}{l:List iJ}{t:jg}(h:lN w b (A::l).toArray t):w.cell? ⟨b,0,none⟩=some A/\w.frozen? ⟨b,0,none⟩=false:=⟨h.cell 0,h.free 0⟩
theorem lN.b3{w:iH}{b:Nat}{A C E:iJ}{l:List iJ}{t:jg}(h:lN w b (A :: C :: E::l).toArray t):w.cell? ⟨b,0,none⟩=some A/\w.cell? ⟨b,1,none⟩=some C/\w.cell? ⟨b,2,none⟩=some E/\w.frozen? ⟨b,0,none⟩=false/\w.frozen? ⟨b,1,none⟩=false/\w.frozen? ⟨b,2,none⟩=false:=⟨h.cell 0,h.cell 1,h.cell 2,h.free 0,h.free 1,h.free 2⟩
theorem lN.b4{w:iH}{b:Nat}{A C E J:iJ}{l:List iJ}{t:jg}(h:lN w b (A :: C :: E :: J::l).toArray t):w.cell? ⟨b,0,none⟩=some A/\w.cell? ⟨b,1,none⟩=some C/\w.cell? ⟨b,2,none⟩=some E/\w.cell? ⟨b,3,none⟩=some J/\w.frozen? ⟨b,0,none⟩=false/\w.frozen? ⟨b,1,none⟩=false/\w.frozen? ⟨b,2,none⟩=false/\w.frozen? ⟨b,3,none⟩=false:=⟨h.cell 0,h.cell 1,h.cell 2,h.cell 3,h.free 0,h.free 1,h.free 2,h.free 3⟩
theorem lN.b6{w:iH}{b:Nat}{A C E J N O:iJ}{l:List iJ}{t:jg}(h:lN w b (A :: C :: E :: J :: N :: O::l).toArray t):w.cell? ⟨b,0,none⟩=some A/\w.cell? ⟨b,1,none⟩=some C/\w.cell? ⟨b,2,none⟩=some E/\w.cell? ⟨b,3,none⟩=some J/\w.cell? ⟨b,4,none⟩=some N/\w.cell? ⟨b,5,none⟩=some O/\w.frozen? ⟨b,0,none⟩=false/\w.frozen? ⟨b,1,none⟩=false/\w.frozen? ⟨b,2,none⟩=false/\w.frozen? ⟨b,3,none⟩=false/\w.frozen? ⟨b,4,none⟩=false/\w.frozen? ⟨b,5,none⟩=false:=⟨h.cell 0,h.cell 1,h.cell 2,h.cell 3,h.cell 4,h.cell 5,h.free 0,h.free 1,h.free 2,h.free 3,h.free 4,h.free 5⟩
theorem lN.f3{w:iH}{b:Nat}{cs:Array iJ}{t:jg}(h:lN w b cs t):w.frozen? ⟨b,0,none⟩=false/\w.frozen? ⟨b,1,none⟩=false/\w.frozen? ⟨b,2,none⟩=false:=⟨h.free 0,h.free 1,h.free 2⟩
theorem lN.f4{w:iH}{b:Nat}{cs:Array iJ}{t:jg}(h:lN w b cs t):w.frozen? ⟨b,0,none⟩=false/\w.frozen? ⟨b,1,none⟩=false/\w.frozen? ⟨b,2,none⟩=false/\w.frozen? ⟨b,3,none⟩=false:=⟨h.free 0,h.free 1,h.free 2,h.free 3⟩
theorem lN.new(w:iH)(cs:Array iJ)(t:jg):lN (w.alloc (lG cs t)) w.heap.size cs t:=heap_alloc_new w _
theorem lN.alloc{w:iH}{b:Nat}{cs:Array iJ}{t:jg}(h:lN w b cs t)(o:Obj):lN (w.alloc o) b cs t:=by
 unfold lN;rw[Below.heap_alloc w o b h.lt];exact h
theorem lN.drew{w:iH}{b:Nat}{cs:Array iJ}{t:jg}(h:lN w b cs t):lN w.drew b cs t:=h
theorem lN.set{w:iH}{b:Nat}{cs:Array iJ}{t:jg}(h:lN w b cs t)(i:Nat)(v:iJ):lN (w.setCell ⟨b,i,none⟩ v) b (cs.setIfInBounds i v) t:=by
 unfold lN at*;simp only[jf];rw[jK,if_pos rfl,h];rfl
theorem lN.setOther{w:iH}{b:Nat}{cs:Array iJ}{t:jg}(h:lN w b cs t){a:kr}(A:b≠a.block)(v:iJ):lN (w.setCell a v) b cs t:=by
 unfold lN;rw[iX w a v b A];exact h
def ng(b:Nat)(w w':iH):Prop:=w.grownBy w' (some b)
theorem ng.refl(b:Nat)(w:iH):ng b w w:=World.grownBy.refl w _
theorem ng.trans{b:Nat}{u v w:iH}(h:ng b u v)(k:ng b v w):ng b u w:=
 ⟨k.os.trans h.os,k.tape.trans h.tape,k.output.trans h.output,je h.size k.size,λi hi A=>(k.block i (jq hi h.size) A).trans (h.block i hi A)⟩
theorem ng.drew{b:Nat}{u v:iH}(h:ng b u v):ng b u v.drew:=⟨h.os,h.tape,h.output,h.size,h.block⟩
theorem ng.of{b:Nat}{w w':iH}(h:iK w.heap.size w w'):ng b w w':=⟨h.os,h.tape,h.output,h.size,λi hi _=>h.block i hi⟩
theorem ng.alloc{b:Nat}{u v:iH}(h:ng b u v)(o:Obj):ng b u (v.alloc o):=h.trans (ng.of ((iL _ _).alloc (iI _) o))
theorem ng.set{b:Nat}{u v:iH}(h:ng b u v)(i:Nat)(x:iJ):ng b u (v.setCell ⟨b,i,none⟩ x):=
 h.trans ⟨rfl,rfl,rfl,by simp[jf],λk _ A=>iX _ _ _ _ (λe=>A (by rw[e]))⟩
theorem ng.yZ{b:Nat}{u v:iH}(h:ng b u v){a:kr}(C:u.heap.size<=a.block)(x:iJ):ng b u (v.setCell a x):=
 ⟨h.os,h.tape,h.output,by simpa [jf]using h.size,λk hk A=>(iX v a x k lK).trans (h.block k hk A)⟩
theorem ng.blk{b c:Nat}{w w':iH}{cs:Array iJ}{t:jg}(h:ng b w w')(hc:lN w c cs t)(A:c≠b):lN w' c cs t:=by
 unfold lN;rw[h.block c hc.lt (by simpa using A)];exact hc
theorem ng.below{b B:Nat}{w0 w w':iH}(h:ng b w w')(hb:iK B w0 w)(hB:B<=b)(A:B<=w.heap.size):iK B w0 w':=
 hb.grown h A λk hk=>by simp at hk;omega
theorem Below.blk{B c:Nat}{w w':iH}{cs:Array iJ}{t:jg}(h:iK B w w')(hc:lN w c cs t)(hlt:c<B):lN w' c cs t:=by
 unfold lN;rw[h.block c hlt];exact hc
theorem Calls.RQ{P:kg}{args:Array iJ}{w:iH}{n:Nat}{v:iJ}(h:iU P f args (w.drewN n) λe w'=>e=lF v/\w.drewN n=w'):iU P f args (w.drewN n) λe A=>e=lF v/\∃m,A=w.drewN m:=
 h.mono λ_ _ ⟨he,C⟩=>⟨he,n,C.symm⟩
theorem lN.drewN{w:iH}{b:Nat}{cs:Array iJ}{t:jg}(h:lN w b cs t)(n:Nat):lN (w.drewN n) b cs t:=h
theorem r9{P:kg}{c:Code}{Q:Exit->Act->iH->Prop}{W:iH}(F:iH->Prop)(hF:F W)(h:∀w,F w->c.wp P Q a w):c.wp P Q a W:=h W hF
structure mH(b q:Nat)(w w':iH):Prop where
 os:w'.os=w.os
 tape:w'.tape=w.tape
 output:w'.output=w.output
 size:w.heap.size<=w'.heap.size
 block:∀k,k<w.heap.size->k≠b->k≠q->w'.heap[k]? =w.heap[k]?
theorem mH.refl(b q:Nat)(w:iH):mH b q w w:=⟨rfl,rfl,rfl,iI _,λ_ _ _ _=>rfl⟩
theorem mH.trans{b q:Nat}{u v w:iH}(h:mH b q u v)(k:mH b q v w):mH b q u w:=
 ⟨k.os.trans h.os,k.tape.trans h.tape,k.output.trans h.output,je h.size k.size,λi hi hb A=>(k.block i (jq hi h.size) hb A).trans (h.block i hi hb A)⟩
theorem mH.drew{b q:Nat}{u v:iH}(h:mH b q u v):mH b q u v.drew:=⟨h.os,h.tape,h.output,h.size,h.block⟩
theorem mH.drewN{b q:Nat}{u v:iH}(h:mH b q u v)(n:Nat):mH b q u (v.drewN n):=⟨h.os,h.tape,h.output,h.size,h.block⟩
theorem mH.y7{b q:Nat}{u v:iH}(h:mH b q u v)(i:Nat)(x:iJ):mH b q u (v.setCell ⟨b,i,none⟩ x):=
 h.trans ⟨rfl,rfl,rfl,by simp[jf],λk _ hb _=>iX _ _ _ _ hb⟩
theorem mH.Lu{b q:Nat}{u v:iH}(h:mH b q u v)(i:Nat)(x:iJ):mH b q u (v.setCell ⟨q,i,none⟩ x):=
 h.trans ⟨rfl,rfl,rfl,by simp[jf],λk _ _ A=>iX _ _ _ _ A⟩
theorem mH.blk{b q c:Nat}{w w':iH}{cs:Array iJ}{t:jg}(h:mH b q w w')(hc:lN w c cs t)(hb:c≠b)(A:c≠q):lN w' c cs t:=by
 unfold lN;rw[h.block c hc.lt hb A];exact hc
theorem mH.upd{b q:Nat}{u w w':iH}(h:mH b q w w')(A:ng b u w)(E:u.heap.size<=q):ng b u w':=
 ⟨h.os.trans A.os,h.tape.trans A.tape,h.output.trans A.output,je A.size h.size,λk hk C=>
  (h.block k (jq hk A.size) (by simpa using C) lK).trans (A.block k hk C)⟩
theorem ng.drewN{b:Nat}{u v:iH}(h:ng b u v)(n:Nat):ng b u (v.drewN n):=⟨h.os,h.tape,h.output,h.size,h.block⟩
def l5(l:List UInt8):List iJ:=l.map λb=> lg .u8 (b.toNat:Int)
@[simp] theorem o8 (l:List UInt8):(l5 l).length=l.length:=by simp[l5]
theorem nQ(l m:List UInt8):l5 (l++m)=l5 l++l5 m:=by simp[l5]
def mI(w:iH)(B:Nat)(e:jg)(v:iJ)(l:List UInt8):Prop:=w.ownsRow B e 1 v l.length (l5 l)
structure oN(P:kg)(t e s:jg):Prop where
 ht:P.underlying t=some (.slice e)
 he:P.underlying e=some (.int .u8)
 hs:P.underlying s=some .string
 hi:(P.info? e).map (λi=>(i.zero,i.size,i.bytes))=some (some (lg .u8 0),1,1)
section
variable {P:kg}{t e s:jg}
theorem mI.nil(w:iH)(B:Nat)(e:jg):mI w B e (lh none 0 0) []:=World.ownsRow_nil w B e 1
theorem mI.made(w:iH)(B:Nat)(e:jg)(A:Array iJ)(cap:Nat)(hb:B<=w.heap.size)(C:cap<=jb)(hs:A.size=cap):
  mI (w.alloc (lG A e)) B e (lh (some ⟨w.heap.size,0,none⟩) 0 cap) []:=World.ownsRow_made w A cap hb C (by simpa using hs)
theorem mI.drew{w:iH}{B:Nat}{v:iJ}{l:List UInt8}(h:mI w B e v l):mI w.drew B e v l:=World.ownsRow.drew h
theorem mI.alloc{w:iH}{B:Nat}{v:iJ}{l:List UInt8}(h:mI w B e v l)(o:Obj):mI (w.alloc o) B e v l:=World.ownsRow.alloc h o
theorem mI.below{w w':iH}{B:Nat}{v:iJ}{l:List UInt8}(h:mI w B e v l)(hb:iK w.heap.size w w'):mI w' B e v l:=by
 obtain⟨J,A⟩:=h;refine⟨J,?_⟩;rcases A with A|⟨g,cap,C,N,hg,E,r⟩
 .exact .inl A
 .refine .inr ⟨g,cap,C,N,hg,?_,r⟩
  rw[hb.block g (jk.1 E).1];exact E
theorem Oc{p:Prop}(h:p:=by
 rw[run_convert_bytes_string w t s e _ _ _ T.ht T.he T.hs];simp[Conv.bytesToString,kE,ByteArray.emptyWithCapacity];rfl):p:=h
theorem mI.string{w:iH}{B:Nat}{v:iJ}{l:List UInt8}(T:oN P t e s)(h:mI w B e v l):
  (convert t s v).run P w=.ok (ll ⟨l.toArray⟩) w:=by
 rcases h.2 with⟨rfl,h0⟩|⟨g,cap,E,rfl,hb,hg,A,J,hsz,htake⟩
 .have:l=[]:=kR.1 h0
  subst this;exact Oc
 .refine run_convert_bytes_back w t s e ⟨g,0,none⟩ cap l T.ht T.he T.hs λj C=> ?_
  have:=World.ownsRow.cells h (g:=g) rfl j (lg .u8 (l[j].toNat:Int)) (by simp[l5,iZ C]);exact this
theorem si(l:List UInt8):∀u∈l5 l,u.oneCell'=true:=by
 intro u A;simp[l5]at A;obtain⟨b,_,rfl⟩:=A;rfl
theorem mP(T:oN P t e s){ops:Array kH}{rest:List kH}{o:kH}{Q:Exit->Act->iH->Prop}(E:o.guard=none)(x y:Operand)(ho:o.op=.call {callee:=.builtin .append,args:=#[x,y],argTypes:=#[t,t]})(B:Nat)(v:iJ)(l m:List UInt8)(k:Nat)(hk:k=m.length)(w:iH)(cs:Array iJ)(J:cs.toList=l5 m)(Y:a.eval x=v)(A:mI w B e v l)(Z:a.eval y=lh (some ⟨w.heap.size,0,none⟩) k k)(hlen:l.length+k<=140737488355328)(hB:B<=w.heap.size)(h:∀v' w',mI w' B e v' (l++m)->iK B w w'->w.heap.size<w'.heap.size->wpList P ops Q rest (a.put o.dst v') w'):
  wpList P ops Q (o::rest) a (w.alloc (lG cs e)):=by
 subst hk;obtain⟨aa,hi,N,O,U⟩:=info_parts T.hi
 refine wpList_append_own _ E x y t ho B e aa (lg .u8 0) 1 1 T.ht hi N O U rfl lM v l.length (l5 l) Y (A.alloc _)
  ⟨w.heap.size,0,none⟩ m.length m.length (l5 m) Z lU ?_ (si m) AV lK lW ?_
 .intro j u C
  have e1:(⟨w.heap.size,0,none⟩:kr).add j=⟨w.heap.size,j,none⟩:=EZ;rw[e1,World.cell?_alloc_mark w cs e (0,0) j,<-C,<-J,Array.getElem?_toList]
 .intro v' w' ae V _
  refine h v' w' ?_ ?_ ?_
  .show w'.ownsRow B e 1 v' (l++m).length (l5 (l++m))
   rw[jv,nQ];exact ae
  .refine((iL B w).alloc hB _).grown V lW λj C=> ?_
   exact(World.ownsRow.lt A j C).1
  .have:=V.size;simp at this;omega
end
structure oO(w:iH) where
 at_:iH
 is:iK w.heap.size w at_
instance(w:iH):Nonempty (oO w):=⟨⟨w,iL _ _⟩⟩
def After(w:iH):iH->Prop:=λw'=>iK w.heap.size w w'
theorem After.trans{a b c:iH}(h:After a b)(k:After b c):After a c:=Below.trans h (Below.mono k h.size)
theorem mF{P:kg}{id:Nat}{Q:Exit->Act->iH->Prop}{w:iH}{l:List kH}(E:P.follows .mixedOrders=true)(hB:Region.lexB .any l.toArray=true)(h:wpQuiet P l.toArray (λw'=>∃x:oO w,w'=x.at_) (λA=>∀x:oO w,Q .normal A x.at_) l a):(jJ id l.toArray true).wp P Q a w:=by
 refine wp_region_quiet (C:=λw'=>∃x:oO w,w'=x.at_) E hB ⟨⟨_,(iL _ _).drew⟩,rfl⟩ ?_;have e:(λA:Act=>∀w',(∃x:oO w,w'=x.at_)->Q .normal A w')=λA=>∀x:oO w,Q .normal A x.at_:=by
  funext A;exact propext ⟨λh x=>h _ ⟨x,rfl⟩,λh w' ⟨x,J⟩=>J▸h x⟩
 rw[e];simpa using h
theorem Calls.after{P:kg}{args:Array iJ}{w:iH}{x:oO w}{v:iJ}(h:iU P f args x.at_ λe w'=>e=lF v/\iK x.at_.heap.size x.at_ w'):iU P f args x.at_ λe A=>e=lF v/\∃y:oO w,A=y.at_:=
 h.mono λ_ w' ⟨he,C⟩=>⟨he,⟨w',After.trans x.is C⟩,rfl⟩
theorem size_mk(l:List UInt8):(⟨l.toArray⟩:ByteArray).size=l.length:=kV
theorem Jc(n:Nat)(h:n<256):(jl n).toNat=n:=by
 show n % 256=n;exact Nat.mod_eq_of_lt h
theorem Dr{x:Int}{n:Nat}(A:x=(n:Int))(h:n<256):[Value.int .u8 x]=l5 [jl n]:=by
 subst A;simp[l5,Jc n h]
section
variable {P:kg}{ops:Array kH}{md:Region.Mode}{C:iH->Prop}
def Jd(P:kg)(md:Region.Mode)(ops:Array kH)(C:iH->Prop)(n:Nat)(L:Array Bool->Act->Prop):Nat->Array Bool->Act->Prop
 |0,A,a=>L A a
 |f+1,A,a=>jW md ops A≠[]/\∀i∈jW md ops A,i<n/\qOp P ops C i (Jd P md ops C n L f (A.setIfInBounds i true)) a
theorem zD{n g:Nat}{L:Array Bool->Act->Prop}{Q:Exit->Act->iH->Prop}(hL:∀A a w,C w->L A a->wpAny P md ops Q g A a w):
  ∀(f:Nat)(A:Array Bool)(a:Act)(w:iH),C w->Jd P md ops C n L f A a->wpAny P md ops Q (f+g) A a w
 |0,A,a,w,E,h=>by rw[Nat.zero_add];exact hL _ _ _ E h
 |f+1,A,a,w,E,h=>by
  rw[show f+1+g=(f+g)+1 by omega];exact⟨λh0=>absurd h0 h.1,λi hi=>wpOp_of_qOp E (λN w' J O=>zD hL f _ N w' J O) (h.2 i hi).2⟩
theorem Od{p:Prop}(h:p:=by
 rcases jG j n with h|h
 .exact h
 .exact absurd hj (tail_waits hs hc hn inv _ i rfl hin hun j h)):p:=h
theorem Je{n i:Nat}{oi:kH}{v:iJ}{L:Array Bool->Act->Prop}(hi:ops[i]? =some oi)(U:∀(j:Nat) (o:kH) cs b,ops[j]? =some o->o.op≠.select cs b)(hs:Region.sinkB md ops n=true)(hc:Region.chainB md ops n=true)(hn:n<ops.size)(hin:i<n)(hdone:∀A a,L A a->∀j∈jW md ops A,n<=j):
  ∀(f:Nat)(A:Array Bool)(a:Act),HeadInv md ops n A->
   (∀j N,ops[j]? =some N->j≠i->A.getD j true=false->(∀e∈N.after,kG md e=true->e.on≠i)->oi.apart ops N=true)->
   i∈jW md ops A->YieldsIn P ops C oi v a->
   Jd P md ops C n L f (A.setIfInBounds i true) (a.put oi.dst v)->Jd P md ops C n L (f+1) A a:=by
 intro f;induction f with
 |zero=>
  intro A a inv _ J aa H;have hun:=(mem_ready.1 J).1;refine⟨λh=>(by rw[h]at J;cases J),λj hj=> ?_⟩;have O:j<n:=by
   exact Od
  refine⟨O,?_⟩;by_cases E:j=i;.subst E;exact aa.qOp hi H
  .have:=hdone _ _ H j (ready_mono hj E)
   omega
 |succ f av=>
  intro A a inv Q J aa H;have hun:=(mem_ready.1 J).1;refine⟨λh=>(by rw[h]at J;cases J),λj hj=> ?_⟩;have O:j<n:=by
   exact Od
  refine⟨O,?_⟩;by_cases E:j=i;.subst E;exact aa.qOp hi H
  .have ae:=(H.2 j (ready_mono hj E)).2
   obtain⟨V,N,Y,ag⟩:=mem_ready.1 hj;have ah:∀e∈N.after,kG md e=true->e.on≠i:=λe he hb ai=>by
    have ae:=ag e he hb;rw[ai,getD_both hun]at ae;cases ae
   have ax:=qOp_put Y (Q j N Y E V ah) (λcs b=>U i oi cs b hi) (λcs b=>U j N cs b Y) aa ae
   have Z:∀k ok,ops[k]? =some ok->k≠i->(A.setIfInBounds j true).getD k true=false->
     (∀e∈ok.after,kG md e=true->e.on≠i)->oi.apart ops ok=true:=λk ok hk aj hun ak=>by
    refine Q k ok hk aj ?_ ak;by_cases af:j=k;.subst af;exact V
    .rw[getD_set_ne true af]at hun;exact hun
   refine qOp_mono (λay au=>av (A.setIfInBounds j true) ay (inv.set hj O) Z (ready_mono J (Ne.symm E)) au.1 ?_) ax;rw[Array.setIfInBounds_comm _ _ E];exact au.2
theorem FH{n g:Nat}{Q:Act->Prop}(J:Region.noSelect ops=true)(hs:Region.sinkB md ops n=true)(hc:Region.chainB md ops n=true)(hn:n<ops.size):
  ∀(l:List kH)(k:Nat)(A:Array Bool)(a:Act),(∀j,j<l.length->l[j]? =ops[k+j]?)->k+l.length=n->HeadInv md ops n A->
  Region.lexHead md ops g l.length k A=true->wpQuiet P ops C Q l a->
  Jd P md ops C n (λE U=>Region.seqB md ops g n E=true/\Q U) l.length A a
 |[],k,A,a,_,hk,_,hB,h=>by
  have:k=n:=by simpa using hk
  subst this;exact⟨by simpa [Region.lexHead]using hB,h⟩
 |o::l,k,A,a,hl,hk,inv,hB,h=>by
  have h0:ops[k]? =some o:=by simpa using(hl 0 lU).symm
  simp only[jm,Region.lexHead,iY]at hB;obtain⟨⟨Z,aa⟩,V⟩:=hB;have N:k<n:=by simp only[jm]at hk;omega
  have O:k∈jW md ops A:=by simpa using Z
  have Y:qOp P ops C k (wpQuiet P ops C Q l) a:=by unfold qOp;simp only[h0];exact h
  obtain⟨v,ae,af⟩:=yieldsIn_of_qOp h0 Y
  exact Je h0 (Region.noSelect_spec J) hs hc hn N (λE U hL=>seqB_ready hL.1) l.length A a inv (Region.free_spec h0 aa) O ae
   (FH J hs hc hn l (k+1) _ _ (λj ag=>by have:=hl (j+1) lW;simpa [jI,Nat.add_comm 1 j]using this) (by simp only[jm]at hk;omega) (inv.set O N) V af)
theorem sS{id:Nat}{Q:Exit->Act->iH->Prop}{w:iH}{l:List kH}(n:Nat)(aa:P.follows .mixedOrders=true)(hB:Region.lexTailB .any l.toArray n=true)(ae:C {w with drawn:=w.drawn+1})(h:wpQuiet P l.toArray C (λJ=>∀w',C w'->wpList P l.toArray Q (l.drop n) J w') (l.take n) a):(jJ id l.toArray true).wp P Q a w:=by
 simp only[Region.lexTailB,iY,decide_eq_true_eq]at hB;obtain⟨⟨⟨⟨N,hn⟩,hs⟩,hc⟩,O⟩:=hB;have af:n<l.length:=by simpa using hn
 have htl:(l.take n).length=n:=lW;have E:(l.drop n).length=l.toArray.size - n:=lU
 have U:HeadInv .any l.toArray n (jQ l.toArray.size false):=
  ⟨lU,λj ag _ hl=>(by rw[getD_replicate_false]at hl;cases hl),λt _ ht=>getD_in (by simpa using ht) (getD_replicate_false _ _)⟩
 have H:=FH (md:=.any) (C:=C) (g:=l.toArray.size - n) N hs hc hn (l.take n) 0 _ a (λj V=>by
  have Y:j<n:=by rw[htl]at V;exact V
  simp[Y]) (by simpa using htl) U (by rw[htl];exact O) h
 refine wp_region_any aa ?_;have:=zD (Q:=Q) (g:=l.toArray.size - n) (λA J w' Z hL=>by
  have:=wpAny_of_seq (md:=.any) (Q':=Q) (l.drop n) n A J w' (λj=>by simp[List.getElem?_drop]) (by rw[E];exact hL.1) (hL.2 w' Z);rwa [E]at this) _ _ _ _ ae H
 rw[htl,show n+(l.toArray.size - n)=l.toArray.size by omega]at this;exact this
theorem sU{id:Nat}{Q:Exit->Act->iH->Prop}{w:iH}{l:List kH}(n:Nat)(E:P.follows .mixedOrders=true)(hB:Region.lexTailB .any l.toArray n=true)(h:wpQuiet P l.toArray (λw'=>∃x:oO w,w'=x.at_) (λA=>∀x:oO w,wpList P l.toArray Q (l.drop n) A x.at_) (l.take n) a):(jJ id l.toArray true).wp P Q a w:=by
 refine sS (C:=λw'=>∃x:oO w,w'=x.at_) n E hB ⟨⟨_,(iL _ _).drew⟩,rfl⟩ ?_;have e:(λA:Act=>∀w',(∃x:oO w,w'=x.at_)->wpList P l.toArray Q (l.drop n) A w')=λA=>∀x:oO w,wpList P l.toArray Q (l.drop n) A x.at_:=by
  funext A;exact propext ⟨λh x=>h _ ⟨x,rfl⟩,λh w' ⟨x,J⟩=>J▸h x⟩
 rw[e];exact h
theorem oC{id:Nat}{Q:Exit->Act->iH->Prop}{w:iH}{l:List kH}(n:Nat)(E:P.follows .mixedOrders=true)(hB:Region.lexTailB .any l.toArray n=true)(h:wpQuiet P l.toArray (λw'=>∃k,w'=w.drewN k) (λA=>∀k,wpList P l.toArray Q (l.drop n) A (w.drewN k)) (l.take n) a):(jJ id l.toArray true).wp P Q a w:=by
 refine sS (C:=λw'=>∃k,w'=w.drewN k) n E hB ⟨1,rfl⟩ ?_;have e:(λA:Act=>∀w',(∃k,w'=w.drewN k)->wpList P l.toArray Q (l.drop n) A w')=λA=>∀k,wpList P l.toArray Q (l.drop n) A (w.drewN k):=by
  funext A;exact propext ⟨λh k=>h _ ⟨k,rfl⟩,λh w' ⟨k,hk⟩=>hk▸h k⟩
 rw[e];exact h
end
structure RS where
 t:ByteArray
 p:Nat
 f:Int
def RS.cs(r:RS):Array iJ:=#[ll r.t,lg lH r.p,lg lH r.f]
def RS.Ok(r:RS):Prop:=r.p<=r.t.size/\r.t.size<=9223372036854775807
def tT(w:iH)(b:Nat)(r:RS):Prop:=lN w b r.cs 220
theorem RU(b A C q:Nat)(n:Int)(w:iH)(h0:n<0)(hn:w.cell? ⟨A,0,none⟩=some (lg lH n)):
  iU iG 184 #[lq (some ⟨A,0,none⟩),lq (some ⟨C,0,none⟩),lq (some ⟨q,0,none⟩)] w λe w'=>e=lF (lg lH 1)/\w=w':=by
 go_in;go_wp2;go_returns;exact⟨rfl,rfl⟩
theorem PU(b A C q:Nat)(t:ByteArray)(p:Nat)(f n:Int)(w:iH)(hp:p<=t.size)(ht:t.size<=9223372036854775807)(h0:0<=n)(E:(t.size:Int) - p<n)(hb:lN w b (RS.cs ⟨t,p,f⟩) 220)(hn:w.cell? ⟨A,0,none⟩=some (lg lH n))(J:w.cell? ⟨C,0,none⟩=some (lq (some ⟨b,0,none⟩))):
  iU iG 184 #[lq (some ⟨A,0,none⟩),lq (some ⟨C,0,none⟩),lq (some ⟨q,0,none⟩)] w λe w'=>e=lF (lg lH 2)/\∃k,w'=w.drewN k:=by
 have c0:=hb.cell 0;have c1:=hb.cell 1;simp[RS.cs]at c0 c1;have N:decide (n<0)=false:=by simpa using h0
 go_in;go_wp2;go_quiet (fail);go_wp2;go_returns;exact⟨rfl,_,rfl⟩
theorem V5(b C E q:Nat)(t:ByteArray)(p m:Nat)(f:Int)(w:iH)(ht:t.size<=9223372036854775807)(V:p+m<=t.size)(A:q≠b)(N:E≠q)(O:C≠q)(hb:lN w b (RS.cs ⟨t,p,f⟩) 220)(J:lN w q #[ll ⟨#[]⟩] 9)(hn:w.cell? ⟨C,0,none⟩=some (lg lH m))(Y:w.cell? ⟨E,0,none⟩=some (lq (some ⟨b,0,none⟩))):
  iU iG 184 #[lq (some ⟨C,0,none⟩),lq (some ⟨E,0,none⟩),lq (some ⟨q,0,none⟩)] w λe w'=>e=lF (lg lH 0)/\mH b q w w'/\
   lN w' b (RS.cs ⟨t,p+m,f⟩) 220/\lN w' q #[ll (t.extract p (p+m))] 9:=by
 have c0:=hb.cell 0;have c1:=hb.cell 1;have f1:=hb.free 1;have Q:=J.cell 0;have Z:=J.free 0;simp[RS.cs]at c0 c1 Q;have aa:decide ((m:Int)<0)=false:=lU;have ae:decide ((t.size:Int) - p<m)=false:=lW;go_in;go_wp2;go_quiet (fail);go_wp2;refine oC 15 lQ lQ ?_;simp only[ji,jC,kU,List.drop_zero];repeat(go_big_quiet_step (fail))
 refine kS ?_;intro U;go_wp2;refine oC 8 lQ lQ ?_;simp only[ji,jC,kU,List.drop_zero];repeat(go_big_quiet_step (fail))
 refine kS ?_;intro af;go_wp2;go_returns;exact⟨rfl,((((mH.refl b q w).drewN _).Lu 0 _).y7 1 _).drewN _,((hb.drewN _).setOther (Ne.symm A) _).set 1 _,((J.drewN _).set 0 _).setOther A _⟩
theorem PV(b A q:Nat)(t:ByteArray)(p:Nat)(f:Int)(w:iH)(ht:t.size<=9223372036854775807)(hp:p<=t.size)(C:t.size<=p)(hb:lN w b (RS.cs ⟨t,p,f⟩) 220)(E:w.cell? ⟨A,0,none⟩=some (lq (some ⟨b,0,none⟩))):
  iU iG 259 #[lq (some ⟨A,0,none⟩),lq (some ⟨q,0,none⟩)] w λe w'=>e=lF (lg lH 2)/\∃k,w'=w.drewN k:=by
 have c0:=hb.cell 0;have c1:=hb.cell 1;simp[RS.cs]at c0 c1;go_in;go_wp2;go_quiet (fail);go_wp2;go_returns;exact⟨rfl,_,rfl⟩
theorem V6(b C q:Nat)(t:ByteArray)(p:Nat)(f:Int)(w:iH)(ht:t.size<=9223372036854775807)(O:p<t.size)(A:q≠b)(J:C≠q)(hb:lN w b (RS.cs ⟨t,p,f⟩) 220)(E:lN w q #[lg .u8 0] 5)(Q:w.cell? ⟨C,0,none⟩=some (lq (some ⟨b,0,none⟩))):
  iU iG 259 #[lq (some ⟨C,0,none⟩),lq (some ⟨q,0,none⟩)] w λe w'=>e=lF (lg lH 0)/\mH b q w w'/\
   lN w' b (RS.cs ⟨t,p+1,f⟩) 220/\lN w' q #[lg .u8 (t[p].toNat:Int)] 5:=by
 have c0:=hb.cell 0;have c1:=hb.cell 1;have f1:=hb.free 1;have N:=E.cell 0;have U:=E.free 0;simp[RS.cs]at c0 c1 N;go_in;go_wp2;go_quiet (fail);go_wp2;refine oC 9 lQ lQ ?_;simp only[ji,jC,kU,List.drop_zero];repeat(go_big_quiet_step (fail))
 refine kS ?_;intro V;go_wp2;go_returns;exact⟨rfl,(((mH.refl b q w).drewN _).Lu 0 _).y7 1 _,((hb.drewN _).setOther (Ne.symm A) _).set 1 _,((E.drewN _).set 0 _).setOther A _⟩
theorem Lv(b A C q:Nat)(n:Int)(w:iH)(h0:¬0<n)(hn:w.cell? ⟨A,0,none⟩=some (lg lH n)):
  iU iG 270 #[lq (some ⟨A,0,none⟩),lq (some ⟨C,0,none⟩),lq (some ⟨q,0,none⟩)] w λe w'=>e=lF (lg lH 0)/\w=w':=by
 go_in;go_wp2;go_returns;exact⟨rfl,rfl⟩
theorem RV(b C E q:Nat)(t:ByteArray)(p m:Nat)(f n:Int)(w:iH)(ht:t.size<=9223372036854775807)(hp:p<=t.size)(h0:0<n)(N:m=min n.toNat (t.size - p))(J:q≠b)(hb:lN w b (RS.cs ⟨t,p,f⟩) 220)(A:lN w q #[ll ⟨#[]⟩] 9)(hn:w.cell? ⟨C,0,none⟩=some (lg lH n))(V:w.cell? ⟨E,0,none⟩=some (lq (some ⟨b,0,none⟩))):
  iU iG 270 #[lq (some ⟨C,0,none⟩),lq (some ⟨E,0,none⟩),lq (some ⟨q,0,none⟩)] w λe w'=>e=lF (lg lH 0)/\mH b q w w'/\
   lN w' b (RS.cs ⟨t,p,f⟩) 220/\lN w' q #[ll (t.extract p (p+m))] 9:=by
 have c0:=hb.cell 0;have c1:=hb.cell 1;have O:=A.cell 0;have Y:=A.free 0;simp[RS.cs]at c0 c1 O;have Q:(if(t.size:Int) - p<n then(t.size:Int) - p else n)=(m:Int):=by split<;>omega
 have U:p+m<=t.size:=lK;clear N;go_in;go_wp2;refine oC 26 lQ lQ ?_;simp only[ji,jC,kU,List.drop_zero];repeat(go_big_quiet_step (fail))
 refine kS ?_;intro k;go_wp2;go_returns;exact⟨rfl,((mH.refl b q w).drewN _).Lu 0 _,(hb.drewN _).setOther (Ne.symm J) _,(A.drewN _).set 0 _⟩
theorem PW(A:Nat)(x:Int)(w:iH)(hn:w.cell? ⟨A,0,none⟩=some (lg lH x)):
  iU iG 225 #[lq (some ⟨A,0,none⟩)] w λe w'=>e=lF (lg lH x)/\w=w':=by
 go_in;go_wp2;go_returns;exact⟨rfl,rfl⟩
theorem zF(b:Nat)(r:RS)(v:iJ)(w:iH)(A:((r.f:Int)==0)=false)(hb:tT w b r):
  iU iG 183 #[lq (some ⟨b,0,none⟩),v] w λe w'=>e=lF (lD #[])/\w=w':=by
 obtain⟨t,p,f⟩:=r;have c2:=lN.cell hb 2;simp[RS.cs]at c2;simp only at A;go_in;go_wp2;go_returns;exact⟨rfl,rfl⟩
theorem y8(b q:Nat)(t:ByteArray)(p C:Nat)(x:Int)(cf:Array iJ)(R:iH->Prop)(w:iH)(hb:tT w b ⟨t,p,0⟩)(E:∀w i v,R w->R (w.setCell ⟨b,i,none⟩ v))(J:iU iG 184 cf w λe w'=>e=lF (lg lH x)/\mH b q w w'/\tT w' b ⟨t,C,0⟩/\R w'):
  iU iG 183 #[lq (some ⟨b,0,none⟩),.func (.func 184) #[] cf] w λe w'=>e=lF (lD #[])/\mH b q w w'/\tT w' b ⟨t,C,x⟩/\R w':=by
 have c2:=lN.cell hb 2;simp[RS.cs]at c2;have O:=iF J;have Q:=iF E;clear J E;go_in;go_wp2_with fail;refine O.out.mono ?_;rintro e w1 ⟨rfl,U,A,N⟩;have V:=lN.cell A 2;have f2:=lN.free A 2;simp[RS.cs]at V;go_wp2_with fail;go_returns;exact⟨rfl,U.y7 2 _,lN.set A 2 _,Q.out _ _ _ N⟩
theorem Dt(b q:Nat)(t:ByteArray)(p C:Nat)(x:Int)(cf:Array iJ)(R:iH->Prop)(w:iH)(hb:tT w b ⟨t,p,0⟩)(E:∀w i v,R w->R (w.setCell ⟨b,i,none⟩ v))(J:iU iG 259 cf w λe w'=>e=lF (lg lH x)/\mH b q w w'/\tT w' b ⟨t,C,0⟩/\R w'):
  iU iG 183 #[lq (some ⟨b,0,none⟩),.func (.func 259) #[] cf] w λe w'=>e=lF (lD #[])/\mH b q w w'/\tT w' b ⟨t,C,x⟩/\R w':=by
 have c2:=lN.cell hb 2;simp[RS.cs]at c2;have O:=iF J;have Q:=iF E;clear J E;go_in;go_wp2_with fail;refine O.out.mono ?_;rintro e w1 ⟨rfl,U,A,N⟩;have V:=lN.cell A 2;have f2:=lN.free A 2;simp[RS.cs]at V;go_wp2_with fail;go_returns;exact⟨rfl,U.y7 2 _,lN.set A 2 _,Q.out _ _ _ N⟩
theorem BK(b q:Nat)(t:ByteArray)(p C:Nat)(x:Int)(cf:Array iJ)(R:iH->Prop)(w:iH)(hb:tT w b ⟨t,p,0⟩)(E:∀w i v,R w->R (w.setCell ⟨b,i,none⟩ v))(J:iU iG 270 cf w λe w'=>e=lF (lg lH x)/\mH b q w w'/\tT w' b ⟨t,C,0⟩/\R w'):
  iU iG 183 #[lq (some ⟨b,0,none⟩),.func (.func 270) #[] cf] w λe w'=>e=lF (lD #[])/\mH b q w w'/\tT w' b ⟨t,C,x⟩/\R w':=by
 have c2:=lN.cell hb 2;simp[RS.cs]at c2;have O:=iF J;have Q:=iF E;clear J E;go_in;go_wp2_with fail;refine O.out.mono ?_;rintro e w1 ⟨rfl,U,A,N⟩;have V:=lN.cell A 2;have f2:=lN.free A 2;simp[RS.cs]at V;go_wp2_with fail;go_returns;exact⟨rfl,U.y7 2 _,lN.set A 2 _,Q.out _ _ _ N⟩
theorem Lx(b q:Nat)(t:ByteArray)(p C:Nat)(x:Int)(cf:Array iJ)(R:iH->Prop)(w:iH)(hb:tT w b ⟨t,p,0⟩)(E:∀w i v,R w->R (w.setCell ⟨b,i,none⟩ v))(J:iU iG 225 cf w λe w'=>e=lF (lg lH x)/\ng b w w'/\tT w' b ⟨t,C,0⟩/\R w'):
  iU iG 183 #[lq (some ⟨b,0,none⟩),.func (.func 225) #[] cf] w λe w'=>e=lF (lD #[])/\ng b w w'/\tT w' b ⟨t,C,x⟩/\R w':=by
 have c2:=lN.cell hb 2;simp[RS.cs]at c2;have O:=iF J;have Q:=iF E;clear J E;go_in;go_wp2_with fail;refine O.out.mono ?_;rintro e w1 ⟨rfl,U,A,N⟩;have V:=lN.cell A 2;have f2:=lN.free A 2;simp[RS.cs]at V;go_wp2_with fail;go_returns;exact⟨rfl,U.set 2 _,lN.set A 2 _,Q.out _ _ _ N⟩
abbrev rE:ByteArray:=⟨#[]⟩
def RS.of(t:ByteArray):RS:=⟨t,0,0⟩
def RS.take(r:RS)(n:Int):RS×ByteArray:=
 if r.f=0 then
  if n<0 then(⟨r.t,r.p,1⟩,rE)else if(r.t.size:Int) - r.p<n then(⟨r.t,r.p,2⟩,rE)else(⟨r.t,r.p+n.toNat,0⟩,r.t.extract r.p (r.p+n.toNat))
 else(r,rE)
def RS.byte(r:RS):RS×Int:=
 if r.f=0 then if h:r.p<r.t.size then(⟨r.t,r.p+1,0⟩,(r.t[r.p].toNat:Int))else(⟨r.t,r.p,2⟩,0)else(r,0)
def RS.ahead(r:RS)(n:Int):ByteArray:=
 if r.f=0 then if 0<n then r.t.extract r.p (r.p+min n.toNat (r.t.size - r.p))else rE else rE
def RS.fail(r:RS)(x:Int):RS:=if r.f=0 then⟨r.t,r.p,x⟩else r
theorem RS.Ok.of{t:ByteArray}(h:t.size<=9223372036854775807):(RS.of t).Ok:=⟨jy _,h⟩
theorem RS.Ok.take{r:RS}(h:r.Ok)(n:Int):(r.take n).1.Ok:=by
 obtain⟨C,A⟩:=h;unfold RS.take;split
 .split
  .exact⟨C,A⟩
  .split
   .exact⟨C,A⟩
   .exact⟨by simp only[];omega,A⟩
 .exact⟨C,A⟩
theorem RS.Ok.byte{r:RS}(h:r.Ok):r.byte.1.Ok:=by
 obtain⟨C,A⟩:=h;unfold RS.byte;split
 .split
  .exact⟨by simp only[];omega,A⟩
  .exact⟨C,A⟩
 .exact⟨C,A⟩
theorem RS.Ok.fail{r:RS}(h:r.Ok)(x:Int):(r.fail x).Ok:=by
 obtain⟨A,C⟩:=h;unfold RS.fail;split<;>exact⟨A,C⟩
def wZ(b:Nat)(w:iH)(r:RS)(v:iJ):Ending->iH->Prop:=λe w'=>e=lF v/\ng b w w'/\tT w' b r
theorem xe(t:ByteArray)(w:iH):
  iU iG 144 #[ll t] w λe w'=>e=lF (lq (some ⟨w.heap.size,0,none⟩))/\iK w.heap.size w w'/\w.heap.size<w'.heap.size/\tT w' w.heap.size (RS.of t):=by
 go_in;go_wp2;go_returns;exact⟨rfl,(iL _ _).alloc (iI _) _,lU,lN.new _ _ _⟩
theorem PX(b:Nat)(r:RS)(w:iH)(hb:tT w b r):
  iU iG 212 #[lq (some ⟨b,0,none⟩)] w λe w'=>e=lF (lg lH r.p)/\w=w':=by
 obtain⟨t,p,f⟩:=r;have c:=lN.cell hb 1;simp[RS.cs]at c;go_in;go_wp2;go_returns;exact⟨rfl,rfl⟩
theorem nR(b:Nat)(r:RS)(w:iH)(hb:tT w b r):
  iU iG 146 #[lq (some ⟨b,0,none⟩)] w λe w'=>e=lF (lg lH r.f)/\w=w':=by
 obtain⟨t,p,f⟩:=r;have c:=lN.cell hb 2;simp[RS.cs]at c;go_in;go_wp2;go_returns;exact⟨rfl,rfl⟩
theorem BL(b:Nat)(r:RS)(w:iH)(A:r.Ok)(hb:tT w b r):
  iU iG 189 #[lq (some ⟨b,0,none⟩)] w λe w'=>e=lF (lg lH ((r.t.size:Int) - r.p))/\∃k,w'=w.drewN k:=by
 obtain⟨t,p,f⟩:=r;obtain⟨C,E⟩:=A;simp only at C E;have c0:=lN.cell hb 0;have c1:=lN.cell hb 1;simp[RS.cs]at c0 c1;go_in;go_wp2;go_quiet (fail);go_wp2;go_returns;exact⟨rfl,_,rfl⟩
theorem y9{p:Prop}(h:p:=by
 rw[hw3]at HH hu3;have q0:=r2.cell 0;rw[hw3]at q0;clear r2 hb3;go_in;go_wp2_with fail;refine HH.out.mono ?_;rintro e w4 ⟨rfl,hu4,hb4,hq4⟩;have q4:=hq4.cell 0;simp at q4;go_wp2_with fail;go_returns;exact⟨rfl,hu4.upd hu3 lK,hb4⟩):p:=h
theorem GG{p:Prop}(h:p:=by
 go_in;go_wp2_with fail;refine(HH.out _).mono ?_;rintro e w4 ⟨rfl,rfl⟩;go_wp2_with fail;go_returns;exact⟨rfl,hu3,hb3⟩):p:=h
theorem RX{p:Prop}(h:p:=by
 rw[hw3];have:=lN.new ((w.alloc (lG #[lq (some ⟨b,0,none⟩)] 193)).alloc (lG #[lg lH n] 3)) #[ll rE] 9;rw[World.size_alloc,World.size_alloc]at this;exact this):p:=h
theorem nU(b:Nat)(r:RS)(n:Int)(w:iH)(Q:r.Ok)(hb:tT w b r):
  iU iG 145 #[lq (some ⟨b,0,none⟩),lg lH n] w (wZ b w (r.take n).1 (ll (r.take n).2)):=by
 obtain⟨t,p,f⟩:=r;obtain⟨N,E⟩:=Q;simp only at N E;have hlt:=lN.lt hb;have U:∀(fn:Fn)(first cap:Array iJ)(w:iH),(kL fn first cap).run iG w=.ok (.func fn first cap) w:=λ_ _ _ _=>rfl
 obtain⟨w3,hw3⟩:∃w3,w3=(((w.alloc (lG #[lq (some ⟨b,0,none⟩)] 193)).alloc (lG #[lg lH n] 3)).alloc (lG #[ll rE] 9)):=⟨_,rfl⟩;have hb3:tT w3 b ⟨t,p,f⟩:=by rw[hw3];exact((lN.alloc hb _).alloc _).alloc _
 have hu3:ng b w w3:=by rw[hw3];exact(((ng.refl b w).alloc _).alloc _).alloc _
 have r0:w3.cell? ⟨w.heap.size,0,none⟩=some (lq (some ⟨b,0,none⟩)):=by rw[hw3];simp[go_sem]
 have r1:w3.cell? ⟨w.heap.size+1,0,none⟩=some (lg lH n):=by rw[hw3];simp[go_sem]
 have r2:lN w3 (w.heap.size+2) #[ll rE] 9:=by
  exact RX
 by_cases C:f=0
 .subst C
  by_cases hn:n<0
  .have e:RS.take ⟨t,p,0⟩ n=(⟨t,p,1⟩,rE):=by unfold RS.take;rw[if_pos rfl,if_pos hn]
   rw[e];clear e
   have H:=y8 b (w.heap.size+2) t p p 1 #[lq (some ⟨w.heap.size+1,0,none⟩),lq (some ⟨w.heap.size,0,none⟩),lq (some ⟨w.heap.size+2,0,none⟩)] (λw'=>lN w' (w.heap.size+2) #[ll (rE)] 9) w3 hb3
    (λw' i v h=>h.setOther lW v) ((RU b _ _ _ n w3 hn r1).mono λe w' ⟨he,A⟩=>⟨he,A▸mH.refl _ _ _,A▸hb3,A▸r2⟩)
   have HH:=iF H;clear H r0 r1;exact y9
  by_cases J:(t.size:Int) - p<n
  .have e:RS.take ⟨t,p,0⟩ n=(⟨t,p,2⟩,rE):=by unfold RS.take;rw[if_pos rfl,if_neg hn,if_pos J]
   rw[e];clear e
   have H:=y8 b (w.heap.size+2) t p p 2 #[lq (some ⟨w.heap.size+1,0,none⟩),lq (some ⟨w.heap.size,0,none⟩),lq (some ⟨w.heap.size+2,0,none⟩)] (λw'=>lN w' (w.heap.size+2) #[ll (rE)] 9) w3 hb3
    (λw' i v h=>h.setOther lW v) ((PU b _ _ _ t p 0 n w3 N E lK J hb3 r1 r0).mono λe w' ⟨he,k,A⟩=>⟨he,A▸(mH.refl _ _ _).drewN k,A▸hb3,A▸r2⟩)
   have HH:=iF H;clear H r0 r1;exact y9
  obtain⟨m,rfl⟩:∃m:Nat,n=m:=⟨n.toNat,lK⟩;have e:RS.take ⟨t,p,0⟩ m=(⟨t,p+m,0⟩,t.extract p (p+m)):=by unfold RS.take;rw[if_pos rfl,if_neg hn,if_neg J];rfl
  rw[e];clear e
  have H:=y8 b (w.heap.size+2) t p (p+m) 0 #[lq (some ⟨w.heap.size+1,0,none⟩),lq (some ⟨w.heap.size,0,none⟩),lq (some ⟨w.heap.size+2,0,none⟩)] (λw'=>lN w' (w.heap.size+2) #[ll (t.extract p (p+m))] 9) w3 hb3
   (λw' i v h=>h.setOther lW v) (V5 b _ _ _ t p m 0 w3 E lK lK lK lK hb3 r2 r1 r0)
  have HH:=iF H;clear H r0 r1;exact y9
 .have e:RS.take ⟨t,p,f⟩ n=(⟨t,p,f⟩,rE):=by unfold RS.take;rw[if_neg C]
  rw[e];have O:((f:Int)==0)=false:=by rw[beq_eq_false_iff_ne];exact C
  clear e;have HH:=iF (λv=>zF b ⟨t,p,f⟩ v w3 O hb3);rw[hw3]at HH hu3 hb3;have q0:=r2.cell 0;rw[hw3]at q0;clear r2 r0 r1 C;exact GG
theorem GH(b:Nat)(r:RS)(n:Int)(w:iH)(Q:r.Ok)(hb:tT w b r):
  iU iG 247 #[lq (some ⟨b,0,none⟩),lg lH n] w (wZ b w r (ll (r.ahead n))):=by
 obtain⟨t,p,f⟩:=r;obtain⟨J,N⟩:=Q;simp only at J N;have hlt:=lN.lt hb;have U:∀(fn:Fn)(first cap:Array iJ)(w:iH),(kL fn first cap).run iG w=.ok (.func fn first cap) w:=λ_ _ _ _=>rfl
 obtain⟨w3,hw3⟩:∃w3,w3=(((w.alloc (lG #[lq (some ⟨b,0,none⟩)] 193)).alloc (lG #[lg lH n] 3)).alloc (lG #[ll rE] 9)):=⟨_,rfl⟩;have hb3:tT w3 b ⟨t,p,f⟩:=by rw[hw3];exact((lN.alloc hb _).alloc _).alloc _
 have hu3:ng b w w3:=by rw[hw3];exact(((ng.refl b w).alloc _).alloc _).alloc _
 have r0:w3.cell? ⟨w.heap.size,0,none⟩=some (lq (some ⟨b,0,none⟩)):=by rw[hw3];simp[go_sem]
 have r1:w3.cell? ⟨w.heap.size+1,0,none⟩=some (lg lH n):=by rw[hw3];simp[go_sem]
 have r2:lN w3 (w.heap.size+2) #[ll rE] 9:=by
  exact RX
 by_cases A:f=0
 .subst A
  by_cases hn:0<n
  .have e:RS.ahead ⟨t,p,0⟩ n=t.extract p (p+min n.toNat (t.size - p)):=by unfold RS.ahead;rw[if_pos rfl,if_pos hn]
   rw[e];clear e;obtain⟨m,C⟩:∃m,m=min n.toNat (t.size - p):=⟨_,rfl⟩;rw[<-C]
   have H:=BK b (w.heap.size+2) t p p 0 #[lq (some ⟨w.heap.size+1,0,none⟩),lq (some ⟨w.heap.size,0,none⟩),lq (some ⟨w.heap.size+2,0,none⟩)] (λw'=>lN w' (w.heap.size+2) #[ll (t.extract p (p+m))] 9) w3 hb3
    (λw' i v h=>h.setOther lW v) (RV b _ _ _ t p m 0 n w3 N J hn C lK hb3 r2 r1 r0)
   have HH:=iF H;clear H r0 r1 C;exact y9
  have e:RS.ahead ⟨t,p,0⟩ n=rE:=by unfold RS.ahead;rw[if_pos rfl,if_neg hn]
  rw[e];clear e
  have H:=BK b (w.heap.size+2) t p p 0 #[lq (some ⟨w.heap.size+1,0,none⟩),lq (some ⟨w.heap.size,0,none⟩),lq (some ⟨w.heap.size+2,0,none⟩)] (λw'=>lN w' (w.heap.size+2) #[ll (rE)] 9) w3 hb3
   (λw' i v h=>h.setOther lW v) ((Lv b _ _ _ n w3 hn r1).mono λe w' ⟨he,E⟩=>⟨he,E▸mH.refl _ _ _,E▸hb3,E▸r2⟩)
  have HH:=iF H;clear H r0 r1;exact y9
 .have e:RS.ahead ⟨t,p,f⟩ n=rE:=by unfold RS.ahead;rw[if_neg A]
  rw[e];have O:((f:Int)==0)=false:=by rw[beq_eq_false_iff_ne];exact A
  clear e;have HH:=iF (λv=>zF b ⟨t,p,f⟩ v w3 O hb3);rw[hw3]at HH hu3 hb3;have q0:=r2.cell 0;rw[hw3]at q0;clear r2 r0 r1 A;exact GG
theorem Jf(b:Nat)(r:RS)(w:iH)(O:r.Ok)(hb:tT w b r):
  iU iG 224 #[lq (some ⟨b,0,none⟩)] w (wZ b w r.byte.1 (lg .u8 r.byte.2)):=by
 obtain⟨t,p,f⟩:=r;obtain⟨J,C⟩:=O;simp only at J C;have hlt:=lN.lt hb;have Q:∀(fn:Fn)(first cap:Array iJ)(w:iH),(kL fn first cap).run iG w=.ok (.func fn first cap) w:=λ_ _ _ _=>rfl
 obtain⟨w3,hw3⟩:∃w3,w3=((w.alloc (lG #[lq (some ⟨b,0,none⟩)] 193)).alloc (lG #[lg .u8 0] 5)):=⟨_,rfl⟩;have hb3:tT w3 b ⟨t,p,f⟩:=by rw[hw3];exact(lN.alloc hb _).alloc _
 have hu3:ng b w w3:=by rw[hw3];exact((ng.refl b w).alloc _).alloc _
 have r0:w3.cell? ⟨w.heap.size,0,none⟩=some (lq (some ⟨b,0,none⟩)):=by rw[hw3];simp[go_sem]
 have r2:lN w3 (w.heap.size+1) #[lg .u8 0] 5:=by
  rw[hw3];have:=lN.new (w.alloc (lG #[lq (some ⟨b,0,none⟩)] 193)) #[lg .u8 0] 5;rw[World.size_alloc]at this;exact this
 by_cases A:f=0
 .subst A
  by_cases hp:p<t.size
  .have e:RS.byte ⟨t,p,0⟩=(⟨t,p+1,0⟩,(t[p].toNat:Int)):=by unfold RS.byte;rw[if_pos rfl,dif_pos hp]
   rw[e];clear e
   have H:=Dt b (w.heap.size+1) t p (p+1) 0 #[lq (some ⟨w.heap.size,0,none⟩),lq (some ⟨w.heap.size+1,0,none⟩)] (λw'=>lN w' (w.heap.size+1) #[lg .u8 (t[p].toNat:Int)] 5) w3 hb3
    (λw' i v h=>h.setOther lW v) (V6 b _ _ t p 0 w3 C hp lK lK hb3 r2 r0)
   have HH:=iF H;clear H r0;exact y9
  .have e:RS.byte ⟨t,p,0⟩=(⟨t,p,2⟩,0):=by unfold RS.byte;rw[if_pos rfl,dif_neg hp]
   rw[e];clear e
   have H:=Dt b (w.heap.size+1) t p p 2 #[lq (some ⟨w.heap.size,0,none⟩),lq (some ⟨w.heap.size+1,0,none⟩)] (λw'=>lN w' (w.heap.size+1) #[lg .u8 0] 5) w3 hb3
    (λw' i v h=>h.setOther lW v) ((PV b _ _ t p 0 w3 C J lK hb3 r0).mono λe w' ⟨he,k,E⟩=>⟨he,E▸(mH.refl _ _ _).drewN k,E▸hb3,E▸r2⟩)
   have HH:=iF H;clear H r0;exact y9
 .have e:RS.byte ⟨t,p,f⟩=(⟨t,p,f⟩,0):=by unfold RS.byte;rw[if_neg A]
  rw[e];have N:((f:Int)==0)=false:=by rw[beq_eq_false_iff_ne];exact A
  clear e;have HH:=iF (λv=>zF b ⟨t,p,f⟩ v w3 N hb3);rw[hw3]at HH hu3 hb3;clear r2 r0 A;exact GG
theorem qX(b:Nat)(r:RS)(x:Int)(w:iH)(hb:tT w b r):
  iU iG 191 #[lq (some ⟨b,0,none⟩),lg lH x] w (wZ b w (r.fail x) (lD #[])):=by
 obtain⟨t,p,f⟩:=r;have hlt:=lN.lt hb;have O:∀(fn:Fn)(first cap:Array iJ)(w:iH),(kL fn first cap).run iG w=.ok (.func fn first cap) w:=λ_ _ _ _=>rfl
 have hb3:tT (w.alloc (lG #[lg lH x] 36)) b ⟨t,p,f⟩:=lN.alloc hb _;have hu3:ng b w (w.alloc (lG #[lg lH x] 36)):=(ng.refl b w).alloc _;have r0:(w.alloc (lG #[lg lH x] 36)).cell? ⟨w.heap.size,0,none⟩=some (lg lH x):=by simp[go_sem]
 by_cases A:f=0
 .subst A
  have e:RS.fail ⟨t,p,0⟩ x=⟨t,p,x⟩:=if_pos rfl;rw[e]
  have H:=Lx b 0 t p p x #[lq (some ⟨w.heap.size,0,none⟩)] (λ_=>True) _ hb3 (λ_ _ _ _=>trivial)
   ((PW w.heap.size x _ r0).mono λe w' ⟨he,C⟩=>⟨he,C▸ng.refl _ _,C▸hb3,trivial⟩)
  have HH:=iF H;clear H r0 e hb3;go_in;go_wp2_with fail;refine HH.out.mono ?_;rintro e w4 ⟨rfl,E,J,_⟩;go_wp2_with fail;go_returns;exact⟨rfl,hu3.trans E,J⟩
 .have e:RS.fail ⟨t,p,f⟩ x=⟨t,p,f⟩:=if_neg A
  rw[e];have N:((f:Int)==0)=false:=by rw[beq_eq_false_iff_ne];exact A
  have HH:=iF (λv=>zF b ⟨t,p,f⟩ v _ N hb3);clear e r0 A;exact GG
end
section
def ma:List UInt8->Nat->Nat->Nat×Nat×Nat
 |[],_,_=>(0,0,2)
 |b::r,i,n=>
  if i=9/\1<b.toNat\/0<i/\b.toNat=0 then(0,0,3)
  else if b.toNat<128 then(n+b.toNat % 128*128^i,i+1,0)
  else ma r (i+1) (n+b.toNat % 128*128^i)
def RY(t:Nat×Nat×Nat):iJ:=lD #[lg lI t.1,lg lH t.2.1,lg lH t.2.2]
theorem V7{a b c:Int}{x y z:Nat}(A:a=x)(C:b=y)(E:c=z):
  jP (lD #[lg lI a,lg lH b,lg lH c])=lF (RY (x,y,z)):=by rw[A,C,E];rfl
theorem drop_at(s:ByteArray)(k:Nat)(h:k<s.size):s.data.toList.drop k=s[k]::s.data.toList.drop (k+1):=by
 have A:k<s.data.toList.length:=by simpa using h
 rw[List.drop_eq_getElem_cons A];rfl
def vD(s:ByteArray)(t:Nat×Nat×Nat)(k n:Nat):Prop:=n<128^k/\ma (s.data.toList.drop k) k n=t
theorem vD.start(s:ByteArray):vD s (ma s.data.toList 0 0) 0 0:=⟨lU,lU⟩
theorem vD.short{t:Nat×Nat×Nat}{k n:Nat}(h:vD s t k n)(hk:s.size<=k):t=(0,0,2):=by
 rw[<-h.2,List.drop_of_length_le (by simpa using hk)];rfl
theorem vD.form{t:Nat×Nat×Nat}{k n:Nat}(h:vD s t k n)(hk:k<s.size)(c:k=9/\1<s[k].toNat\/0<k/\s[k].toNat=0):t=(0,0,3):=by
 rw[<-h.2,drop_at s k hk,ma,if_pos c]
theorem vD.done{t:Nat×Nat×Nat}{k n:Nat}(h:vD s t k n)(hk:k<s.size)(c:¬(k=9/\1<s[k].toNat\/0<k/\s[k].toNat=0))(c2:s[k].toNat<128):t=(n+s[k].toNat % 128*128^k,k+1,0):=by
 rw[<-h.2,drop_at s k hk,ma,if_neg c,if_pos c2]
theorem vD.step{t:Nat×Nat×Nat}{k n:Nat}(h:vD s t k n)(hk:k<s.size)(c:¬(k=9/\1<s[k].toNat\/0<k/\s[k].toNat=0))(c2:128<=s[k].toNat):vD s t (k+1) (n+s[k].toNat % 128*128^k):=by
 refine⟨?_,?_⟩
 .have A:=h.1
  have:s[k].toNat % 128<=127:=lK;have C:=Nat.mul_le_mul_right (128^k) this;rw[Nat.pow_succ];omega
 .rw[<-h.2,drop_at s k hk,ma,if_neg c,if_neg lK]
theorem RZ(k:Nat)(h:k<=9):128^k<=9223372036854775808:=
 je (jO lM h) lM
theorem V8(k:Nat)(h:k<=8):128^k<=72057594037927936:=
 je (jO lM h) lM
theorem R3(k b:Nat)(hk:k<=9)(A:k=9->b % 128<=1):b % 128*128^k+128^k<=18446744073709551616:=by
 have hp:=RZ k hk;by_cases h:k=9
 .have:=Nat.mul_le_mul_right (128^k) (A h)
  omega
 .have C:=V8 k lK
  have E:b % 128<=127:=lK;have:=Nat.mul_le_mul E C;omega
theorem a1Q(k n b p:Nat)(hk:k<=9)(hn:n<128^k)(hb:b<256)(A:k=9->b % 128<=1)(hp:p=128^k):
  IntKind.u64.wrap ((n:Int)+IntKind.u64.wrap ((b:Int) % 128*(p:Int)))=((n+b % 128*128^k:Nat):Int):=by
 have lt:=R3 k b hk A;have hd:0<=b % 128*128^k:=jy _;subst hp
 rw[show((b:Int) % 128*((128^k:Nat):Int))=((b % 128*128^k:Nat):Int)from by rw[Int.natCast_mul];rfl,
  IntWalk.u64_in ((b % 128*128^k:Nat):Int) ⟨lK,lK⟩,<-Int.natCast_add,IntWalk.u64_in _ ⟨lK,lK⟩]
theorem YF(k n b:Nat)(hk:k<=9)(hn:n<128^k)(hb:b<256)(C:k=9->b % 128<=1):
  bits BinOp.or IntKind.u64 (n:Int) (IntKind.u64.wrap (IntKind.u64.wrap (bits BinOp.and IntKind.u8 (b:Int) 127)*2^(7*k)))=
   ((n+b % 128*128^k:Nat):Int):=by
 have hp:=RZ k hk;have e1:bits BinOp.and IntKind.u8 (b:Int) 127=((b % 128:Nat):Int):=by
  rw[show(127:Int)=((127:Nat):Int)from rfl,u8_and_nat b 127 hb lM];congr 1;exact Nat.and_two_pow_sub_one_eq_mod b 7
 have e2:(2:Int)^(7*k)=((128^k:Nat):Int):=by
  rw[Int.pow_mul];simp
 have lt:b % 128*128^k+128^k<=18446744073709551616:=by
  by_cases h:k=9
  .have:=Nat.mul_le_mul_right (128^k) (C h)
   omega
  .have E:128^k<=72057594037927936:=je (jO lM (show k<=8 by omega)) lM
   have J:b % 128<=127:=lK;have:=Nat.mul_le_mul J E;omega
 have hd:0<=b % 128*128^k:=jy _
 rw[e1,e2,IntWalk.u64_in ((b % 128:Nat):Int) ⟨lK,lK⟩,<-Int.natCast_mul,IntWalk.u64_in _ ⟨lK,lK⟩,
  u64_or_nat n (b % 128*128^k) lK lK]
 congr 1;have A:n<2^(7*k):=by rw[Nat.pow_mul];exact hn
 have:=kT A (b % 128);rw[Nat.pow_mul]at this;rw[Nat.or_comm,Nat.mul_comm,show(128:Nat)=2^7 from rfl,<-this,Nat.add_comm]
def mJ(n:Nat):List UInt8:=if h:n<128 then [jl n]else jl (n % 128+128)::mJ (n/128)
termination_by n
decreasing_by omega
theorem oP(n:Nat)(h:n<128):mJ n=[jl n]:=by rw[mJ,dif_pos h]
theorem ug(n:Nat)(h:128<=n):mJ n=jl (n % 128+128)::mJ (n/128):=by rw[mJ,dif_neg lK]
theorem uh:∀ k n:Nat,n<128^k->(mJ n).length<=max 1 k
 |0,n,h=>by rw[oP n (by simp at h;omega)];simp
 |k+1,n,h=>by
  by_cases c:n<128;.rw[oP n c];simp
  .rw[ug n lK]
   have:=uh k (n/128) (by rw[Nat.pow_succ]at h;omega);simp only[jm];have:k≠0:=by rintro rfl;simp at h;omega
   omega
def xg(t l:List UInt8)(m:Nat):Prop:=l++mJ m=t/\t.length<=10
theorem xg.start(n:Nat)(h:n<18446744073709551616):xg (mJ n) [] n:=by
 refine⟨rfl,?_⟩;have:=uh 10 n (jq h lM);omega
theorem xg.le{t l:List UInt8}{m:Nat}(h:xg t l m):l.length+1<=10:=by
 have A:=congrArg List.length h.1;have C:=h.2;simp only[jv]at A;have:1<=(mJ m).length:=by
  by_cases c:m<128;.rw[oP m c];simp
  .rw[ug m lK];simp
 omega
theorem xg.step{t l:List UInt8}{m:Nat}(h:xg t l m)(c:128<=m):xg t (l++[jl (m % 128+128)]) (m/128):=by
 refine⟨?_,h.2⟩;rw[List.append_assoc,<-h.1,ug m c];rfl
theorem xg.done{t l:List UInt8}{m:Nat}(h:xg t l m)(c:m<128):l++[jl m]=t:=by
 rw[<-h.1,oP m c]
theorem a0K(m:Nat):bits BinOp.or IntKind.u8 ((m:Int) % 256) 128=((m % 128+128:Nat):Int):=by
 rw[show(m:Int) % 256=((m % 256:Nat):Int)from by omega,show(128:Int)=((128:Nat):Int)from rfl,u8_or_nat (m % 256) 128 lK lM];congr 1;have key:∀a:Nat,a<256->a|||128=a % 128+128:=wJ
 rw[key _ lK];omega
theorem LA(n:Nat):1<=(mJ n).length:=by
 by_cases c:n<128;.rw[oP n c];simp
 .rw[ug n lK];simp
theorem Yd{b:UInt8}{n:Nat}(h:n=b.toNat):jl n=b:=by subst h;simp
theorem Jg:∀(r:List UInt8)(i A N K:Nat),i<=9->A<128^i->ma r i A=(N,K,0)->
  ∃m,N=A+m*128^i/\N<18446744073709551616/\K=i+(mJ m).length/\(0<i->0<m)/\mJ m<+:r
 |[],i,A,N,K,hi,J,h=>by simp[ma]at h
 |b::r,i,A,N,K,hi,J,h=>by
  rw[ma]at h;by_cases c:i=9/\1<b.toNat\/0<i/\b.toNat=0;.rw[if_pos c]at h;simp at h
  .rw[if_neg c]at h
   have hb:=b.toNat_lt;by_cases c2:b.toNat<128
   .rw[if_pos c2]at h
    simp only[Prod.mk.injEq]at h;have hlt:=R3 i b.toNat hi lK;have e:b.toNat % 128=b.toNat:=lK;rw[e]at h hlt;refine⟨b.toNat,h.1.symm,lK,?_,lK,?_⟩;.rw[oP _ c2];exact h.2.1.symm
    .rw[oP _ c2,Yd rfl];exact⟨r,rfl⟩
   .rw[if_neg c2]at h
    have hi9:i<=8:=lK;have C:A+b.toNat % 128*128^i<128^(i+1):=by
     have:b.toNat % 128<=127:=lK;have E:=Nat.mul_le_mul_right (128^i) this;rw[Nat.pow_succ];omega
    obtain⟨m,O,E,Q,U,V⟩:=Jg r (i+1) _ N K lK C h;have Y:=U lK;have e1:(b.toNat % 128+128*m) % 128+128=b.toNat:=lK;have e2:(b.toNat % 128+128*m)/128=m:=lK;have e3:mJ (b.toNat % 128+128*m)=b::mJ m:=by
     rw[ug _ lK,e1,e2,Yd rfl]
    refine⟨b.toNat % 128+128*m,?_,E,?_,lK,?_⟩
    .rw[O,Nat.pow_succ,j6]
     have:m*(128^i*128)=128*m*128^i:=by rw[Nat.mul_comm (128^i) 128,<-Nat.mul_assoc,Nat.mul_comm m 128]
     omega
    .rw[e3,Q];simp only[jm];omega
    .rw[e3];exact List.cons_prefix_cons.2 ⟨rfl,V⟩
theorem qQ{l:List UInt8}{N K:Nat}(h:ma l 0 0=(N,K,0)):K<=l.length/\N<18446744073709551616/\mJ N=l.take K/\K<=10:=by
 obtain⟨m,C,E,A,_,J⟩:=Jg l 0 0 N K lK lU h;simp at C A;subst C;refine⟨by rw[A];exact J.length_le,E,?_,?_⟩;.rw[A];exact(List.prefix_iff_eq_take.1 J)
 .have:=uh 10 N (jq E lM)
  omega
def nz(most:Int)(l:List UInt8):Nat×Nat×Nat:=
 if(ma l 0 0).2.2=0 then if most<0\/most<((ma l 0 0).1:Int)then(0,0,5)else ma l 0 0 else(0,0,(ma l 0 0).2.2)
structure PF where
 id:Nat
 body:ByteArray
 n:Nat
 e:Nat
def PF.bad(e:Nat):PF:=⟨0,⟨#[]⟩,0,e⟩
def mZ(most:Int)(s:ByteArray):PF:=
 if(nz most s.data.toList).2.2=0 then
  if s.size<(nz most s.data.toList).2.1+(nz most s.data.toList).1 then .bad 2
  else
   (λi:ByteArray=>if(ma i.data.toList 0 0).2.2=0 then⟨(ma i.data.toList 0 0).1,i.extract (ma i.data.toList 0 0).2.1 i.size,(nz most s.data.toList).2.1+(nz most s.data.toList).1,0⟩else .bad 3)
    (s.extract (nz most s.data.toList).2.1 ((nz most s.data.toList).2.1+(nz most s.data.toList).1))
 else .bad (nz most s.data.toList).2.2
def AX(id:Nat)(b:ByteArray):ByteArray:=⟨(mJ ((mJ id).length+b.size)).toArray⟩++⟨(mJ id).toArray⟩++b
theorem xh{l:List UInt8}{n k:Nat}(h:nz most l=(n,k,0)):ma l 0 0=(n,k,0)/\(n:Int)<=most/\k<=l.length/\k<=10:=by
 unfold nz at h;split at h
 .rename_i h0
  split at h;.simp at h
  .rename_i A
   have hk:=qQ h;rw[h]at A;simp only at A;exact⟨h,lK,hk.1,hk.2.2.2⟩
 .rename_i h0
  simp only[Prod.mk.injEq]at h;exact absurd h.2.2 h0
theorem PY{l:List UInt8}(h:(nz most l).2.2≠0):nz most l=(0,0,(nz most l).2.2):=by
 unfold nz at*;split
 .rename_i h0
  rw[if_pos h0]at h;split;.rfl
  .rename_i A
   rw[if_neg A]at h;exact absurd h0 h
 .rfl
theorem Jh(h:(nz most s.data.toList).2.2≠0):mZ most s=.bad (nz most s.data.toList).2.2:=by unfold mZ;rw[if_neg h]
theorem LB{n k:Nat}(h:nz most s.data.toList=(n,k,0))(A:s.size<k+n):mZ most s=.bad 2:=by
 unfold mZ;rw[h,if_pos rfl,if_pos A]
theorem LC{n k:Nat}(h:nz most s.data.toList=(n,k,0))(C:k+n<=s.size)(A:(ma (s.extract k (k+n)).data.toList 0 0).2.2≠0):mZ most s=.bad 3:=by
 unfold mZ;rw[h,if_pos rfl,if_neg (show¬s.size<k+n by omega)];show(if _ then _ else _)=_;rw[if_neg A]
theorem R4{n k id z:Nat}(h:nz most s.data.toList=(n,k,0))(C:k+n<=s.size)(A:ma (s.extract k (k+n)).data.toList 0 0=(id,z,0)):
  mZ most s=⟨id,(s.extract k (k+n)).extract z n,k+n,0⟩:=by
 unfold mZ;rw[h,if_pos rfl,if_neg (show¬s.size<k+n by omega)];show(if _ then _ else _)=_;rw[A,if_pos rfl,ja,show min (k+n) s.size - k=n by omega]
end
section
open Go.RowKit
theorem GI{p:Prop}(h:p:=by
 clear c d1;go_wp2;go_returns;exact⟨by rw[ht.out];exact V7 hor.out rfl rfl,rfl⟩):p:=h
theorem Oe{p:Prop}(h:p:=by
 clear c c2;go_wp2;go_round;case rel=>exact⟨k+1,_,lK,lK,by go_num,by rw[hor.out],hs'⟩
 case measure=>simp[jA];omega):p:=h
theorem Og{p:Prop}(h:p:=by
 have c3:((s[k].toNat:Int)==0)=true:=Lt;have c4:0<k:=lK;clear c d;go_wp2;go_returns;exact⟨by rw[ht.out];rfl,rfl⟩):p:=h
theorem zG(s:ByteArray)(w:iH)(hs:s.size<=jb):
  iU iG 126 #[ll s] w λe w'=>e=lF (RY (ma s.data.toList 0 0))/\w=w':=by
 unfold jb at hs;have O:=vD.start s;generalize ma s.data.toList 0 0=t at*;go_in
 obtain⟨m,Q,V,hm2,C⟩:∃m:Nat,(if(10:Int)<(s.size:Int)then 10 else(s.size:Int))=(m:Int)/\m<=s.size/\m<=10/\(s.size<=m\/10<=m):=
  ⟨min s.size 10,by split<;>omega,lK,lK,lK⟩
 have E:=iF C;clear C;go_wp2
 .clear Q
  go_loop [5,11] (λJ i=>∃k n:Nat,k<=s.size/\k<=9/\i=lg lH k/\J=lg lI n/\vD s t k n) (λ_ i=>10 -(jA i).toNat);case atStart=>exact⟨0,0,lK,lK,rfl,rfl,O⟩
  case round=>
   obtain⟨k,n,hk,N,rfl,rfl,A⟩:=hrel;by_cases Y:k<m
   .have hlt:k<s.size:=lK
    have hb:s[k].toNat<=255:=by have:=s[k].toNat_lt;omega
    by_cases c:k=9/\1<s[k].toNat\/0<k/\s[k].toNat=0
    .have ht:=iF (A.form hlt c)
     by_cases d:k=9
     .have c1:((k:Int)==9)=true:=Lt
      by_cases c2:1<s[k].toNat
      .clear c d
       go_wp2;go_returns;exact⟨by rw[ht.out];rfl,rfl⟩
      .exact Og
     .have c1:((k:Int)==9)=false:=sQ
      exact Og
    .have hor:=iF (YF k n s[k].toNat N A.1 lK lK)
     by_cases c2:s[k].toNat<128
     .have ht:=iF (A.done hlt c c2)
      by_cases d1:k=9
      .have c1:((k:Int)==9)=true:=Lt
       have c5:s[k].toNat<=1:=lK;have c3:((s[k].toNat:Int)==0)=false:=sQ;have c4:0<k:=lK;exact GI
      .have c1:((k:Int)==9)=false:=sQ
       by_cases U:0<k
       .have c3:((s[k].toNat:Int)==0)=false:=sQ
        exact GI
       .exact GI
     .have c4:128<=s[k].toNat:=lK
      have hs':=A.step hlt c c4;have c1:((k:Int)==9)=false:=sQ;have Z:k<=8:=lK;by_cases U:0<k
      .have c3:((s[k].toNat:Int)==0)=false:=sQ
       exact Oe
      .exact Oe
   .go_wp2
    go_returns;exact⟨by rw[A.short (by have:=E.out;omega)];rfl,rfl⟩
end
section
def CJ:Nat->Nat->List UInt8
 |0,_=>[]
 |k+1,n=>jl (n % 256)::CJ k (n/256)
def nT:List UInt8->Nat
 |[]=>0
 |b::r=>b.toNat+256*nT r
def zH(n:Nat):List UInt8:=if h:n=0 then []else jl (n % 256)::zH (n/256)
termination_by n
decreasing_by omega
theorem qf:zH 0=[]:=by rw[zH,dif_pos rfl]
theorem tV(n:Nat)(h:0<n):zH n=jl (n % 256)::zH (n/256):=by rw[zH,dif_neg lK]
@[simp] theorem za:∀ k n:Nat,(CJ k n).length=k
 |0,_=>rfl
 |k+1,n=>by simp[CJ,za k]
theorem u8n(n:Nat)(h:n<256):(jl n).toNat=n:=by
 show n % 256=n;exact Nat.mod_eq_of_lt h
theorem Ji:∀ k n:Nat,CJ (k+1) n=CJ k n++[jl (n/256^k % 256)]
 |0,n=>by simp[CJ]
 |k+1,n=>by
  rw[CJ,Ji k (n/256),CJ,Nat.div_div_eq_div_mul,Nat.pow_succ,Nat.mul_comm 256];rfl
theorem R5:∀ k n:Nat,n<256^k->nT (CJ k n)=n
 |0,n,h=>by simp at h;subst h;rfl
 |k+1,n,h=>by
  rw[CJ,nT,u8n _ lK,R5 k (n/256) (by rw[Nat.pow_succ]at h;omega)];omega
theorem qH:∀ l:List UInt8,nT l<256^l.length
 |[]=>by simp[nT]
 |b::r=>by
  have:=qH r;have hb:=b.toNat_lt;rw[nT,jm,Nat.pow_succ];omega
theorem u8e{b:UInt8}{n:Nat}(h:n=b.toNat):jl n=b:=by subst h;simp
theorem Jj:∀ l:List UInt8,CJ l.length (nT l)=l
 |[]=>rfl
 |b::r=>by
  have hb:=b.toNat_lt;rw[nT,jm,CJ,u8e (b:=b) lK,show(b.toNat+256*nT r)/256=nT r by omega,Jj r]
theorem xm:∀ l m:List UInt8,nT (l++m)=nT l+256^l.length*nT m
 |[],m=>by simp[nT]
 |b::r,m=>by
  rw[List.cons_append,nT,nT,xm r m,jm,Nat.pow_succ,Nat.mul_comm (256^r.length) 256,Nat.mul_assoc];omega
theorem AY:∀ k n:Nat,n<256^k->(zH n).length<=k
 |0,n,h=>by simp at h;subst h;simp[qf]
 |k+1,n,h=>by
  by_cases c:n=0;.subst c;simp[qf]
  .rw[tV n lK,jm]
   have:=AY k (n/256) (by rw[Nat.pow_succ]at h;omega);omega
theorem GJ:∀ k n:Nat,n<256^k->CJ k n=zH n++jY (k -(zH n).length) 0
 |0,n,h=>by simp at h;subst h;simp[qf,CJ]
 |k+1,n,h=>by
  by_cases c:n=0
  .subst c
   have:=GJ k 0 (Nat.pow_pos lM);simp only[qf,List.nil_append,List.length_nil,Nat.sub_zero]at this⊢;rw[CJ,this];rfl
  .rw[tV n lK,CJ,GJ k (n/256) (by rw[Nat.pow_succ]at h;omega),jm,List.cons_append,Nat.add_sub_add_right]
theorem Jk(n:Nat):nT (zH n)=n:=by
 induction n using Nat.strongRecOn with
 |_ n A=>
  by_cases c:n=0;.subst c;simp[qf,nT]
  .rw[tV n lK,nT,A (n/256) lK,u8n _ lK];omega
theorem V9(k n:Nat):(zH n).length<=k<->n<256^k:=by
 refine⟨λh=> ?_,AY k n⟩;have:=qH (zH n);rw[Jk]at this;exact jq this (jO lM h)
theorem YG(n:Nat):zH n=CJ (zH n).length n:=by
 have:=GJ (zH n).length n ((V9 _ _).1 (iI _));simpa using this.symm
theorem Jl:∀(l:List UInt8)(b:UInt8),b.toNat≠0->zH (nT (l++[b]))=l++[b]
 |[],b,h=>by
  have hb:=b.toNat_lt;simp only[List.nil_append,nT,Nat.mul_zero,Nat.add_zero];rw[tV _ lK,show b.toNat/256=0 by omega,qf,u8e (b:=b) lK]
 |a::r,b,h=>by
  have A:=Jl r b h;have C:=a.toNat_lt;have h0:0<nT (r++[b]):=by
   rw[xm,nT,nT];have:=Nat.pow_pos (n:=r.length) (show 0<256 by decide);have:=Nat.mul_pos this (show 0<b.toNat+256*0 by omega);omega
  rw[List.cons_append,nT,tV _ lK,show(a.toNat+256*nT (r++[b]))/256=nT (r++[b])by omega,A,u8e (b:=a) lK]
theorem R6(n:Nat)(h:0<n):∃l b,zH n=l++[b]/\b.toNat≠0:=by
 induction n using Nat.strongRecOn with
 |_ n A=>
  by_cases c:n<256
  .refine⟨[],jl n,?_,by rw[u8n n c];omega⟩
   rw[tV n h,show n/256=0 by omega,qf,Nat.mod_eq_of_lt c];rfl
  .obtain⟨l,b,C,E⟩:=A (n/256) lK lK
   exact⟨jl (n % 256)::l,b,by rw[tV n h,C];rfl,E⟩
def ql(l:List UInt8):Nat:=nT l.reverse
theorem FI(l:List UInt8)(b:UInt8):ql (l++[b])=256*ql l+b.toNat:=by
 unfold ql;rw[List.reverse_append];simp[nT];omega
theorem CK(l:List UInt8):ql l<256^l.length:=by
 have:=qH l.reverse;rwa [List.length_reverse]at this
theorem PZ(l:List UInt8)(b:UInt8):nT (l++[b])=nT l+256^l.length*b.toNat:=by
 rw[xm];simp[nT]
end
section
open Go.RowKit
theorem RD:oN iG 86 5 9:=⟨kC,Tryz.underlying5,Tryz.underlying9,lQ⟩
theorem LD(k:Nat):(2:Int)^(8*k)=((256^k:Nat):Int):=by
 rw[Int.pow_mul];simp
theorem vU{p:Prop}(h:p:=by
 go_in;go_wp2_with fail;go_returns;exact⟨rfl,rfl⟩):p:=h
theorem a0L(n:Nat)(k:Int)(w:iH)(hk:k<1\/8<k):
  iU iG 178 #[lg lI n,lg lH k] w λe w'=>e=lF (lg lH 1)/\w=w':=by
 rcases hk with hk|hk
 .exact vU
 .have A:¬k<1:=lK
  exact vU
theorem a0r(n k:Nat)(w:iH)(hn:n<18446744073709551616)(A:1<=k)(C:k<=8)(h:256^k<=n):
  iU iG 178 #[lg lI n,lg lH k] w λe w'=>e=lF (lg lH 5)/\w=w':=by
 have hb:(((n:Int)/2^(8*k)) !=0)=true:=by
  rw[LD,bne_iff_ne,<-Int.natCast_ediv];have:=Nat.div_pos h (Nat.pow_pos lM);omega
 clear h;go_in;go_wp2_with fail;go_returns;exact⟨rfl,rfl⟩
def ve(k j n:Nat):List iJ:=l5 (CJ j n)++jY (k - j) (lg .u8 0)
theorem Jm(k j n:Nat)(h:j<k):(ve k j n).set j (lg .u8 ((n/256^j % 256:Nat):Int))=ve k (j+1) n:=by
 unfold ve;rw[Ji,nQ,List.set_append_right _ _ lU,show k - j=(k -(j+1))+1 by omega,List.replicate_succ];simp[l5,u8n _ (Nat.mod_lt (n/256^j) (show 0<256 by decide))]
theorem Jn(k n:Nat):(l5 (CJ k n)).length=k:=lU
theorem LF(k j n:Nat)(h:j<k):(ve k j n)[j]? =some (lg .u8 0):=by
 unfold ve;rw[List.getElem?_append_right lU,Jn,List.getElem?_replicate,if_pos lK]
theorem LG(n k:Nat)(w:iH)(hn:n<18446744073709551616)(ag:k<=8):
  iU iG 179 #[lg lI n,lg lH k] w λe w'=>e=lF (lh (some ⟨w.heap.size,0,none⟩) k k)/\
   mI w' w.heap.size 5 (lh (some ⟨w.heap.size,0,none⟩) k k) (CJ k n)/\iK w.heap.size w w':=by
 obtain⟨aa,hi,Q,U,V⟩:=info_parts RD.hi;obtain⟨B,hB⟩:=lV w.heap.size;have E:B<=w.heap.size:=lK;rw[hB];have ah:=iF hB;go_in;go_wp2_with (refine wpList_make_full _ rfl (.tmp 7) (.tmp 7) 86 rfl B 5 aa (.int .u8 0) 1 kC hi Q U .i64 .i64 k k k rfl rfl rfl rfl (by rw[V];omega) AV E ?_;intro w1 A C);rw[hB]at A;have Y:iW ((madeCells (Value.int .u8 0).cells (k*1)).toList=ve k 0 n):=by
  unfold iW ve;rw[show(Value.int .u8 0).cells=#[lg .u8 0]from rfl,toList_madeCells_one];simp[CJ,l5]
 rw[Y.out]at A;have O:iK B w w1:=(iL _ _).grown C E (λ_ h=>by cases h);go_loopw [10] (λi wr=>∃j:Nat,j<=k/\i=lg lH j/\wr.ownsRow B 5 1 (lh (some ⟨B,0,none⟩) k k) k (ve k j n)/\iK B w wr) (λi _=>k -(jA i).toNat);case atStart=>exact⟨0,lK,rfl,A,O⟩
 case round=>
  obtain⟨j,ai,rfl,ho,J⟩:=hrel;by_cases c:j<k
  .have Z:wr.cell? ⟨B,j,none⟩=some (lg .u8 0):=by rw[ho.cellAt j lK,LF k j n c]
   have af:=ho.frozenAt j;have ae:iW (((n:Int)/2^(8*j) % 256)=((n/256^j % 256:Nat):Int)):=by unfold iW;rw[LD];rfl
   have N:=ho.stored j (lg .u8 ((n/256^j % 256:Nat):Int));rw[Jm k j n c]at N;go_wp2_with fail;go_roundw;case rel=>rw[ae.out];exact⟨j+1,lK,by go_num,N.1,J.setCell (p:=⟨B,j,none⟩) (iI _) _⟩
   case measure=>simp[jA];omega
  .obtain rfl:j=k:=lK
   go_wp2_with fail;go_returns;refine⟨rfl,?_,J⟩;have e:ve j j n=l5 (CJ j n):=by unfold ve;simp
   unfold mI;rw[za,<-e];exact ho
theorem E5(w:iH):iU iG 127 #[lg lH 0] w λe w'=>e=lF (lg lH 1)/\w=w':=by
 exact vU
theorem E8(k:Nat)(w:iH)(h:8<k):iU iG 127 #[lg lH k] w λe w'=>e=lF (lg lH 5)/\w=w':=by
 have h0:((k:Int)==0)=false:=sQ;exact vU
theorem BM(k:Nat)(w:iH)(A:1<=k)(h:k<=8):iU iG 127 #[lg lH k] w λe w'=>e=lF (lg lH 0)/\w=w':=by
 have h0:((k:Int)==0)=false:=sQ;exact vU
theorem YH(n b j:Nat)(C:j<=7)(hn:n<256^j)(hb:b<256):
  bits BinOp.or IntKind.u64 (n:Int) (IntKind.u64.wrap ((b:Int)*2^(8*j)))=((n+256^j*b:Nat):Int):=by
 have hp:256^j<=72057594037927936:=je (jO lM C) lM;have E:=Nat.mul_le_mul (show b<=255 by omega) hp;rw[LD,<-Int.natCast_mul,IntWalk.u64_in _ ⟨lK,lK⟩,u64_or_nat n (b*256^j) lK lK];congr 1;have A:n<2^(8*j):=by rw[Nat.pow_mul];exact hn
 have:=kT A b;rw[Nat.pow_mul]at this;rw[Nat.or_comm,Nat.mul_comm,show(256:Nat)=2^8 from rfl,<-this,Nat.add_comm]
theorem LH(s:ByteArray)(k:Nat)(h:k<s.size):s.data.toList.take (k+1)=s.data.toList.take k++[s[k]]:=by
 rw[List.take_succ_eq_append_getElem (by simpa using h)];rfl
theorem zI(k:Nat)(h:k<=8):256^k<=18446744073709551616:=je (jO lM h) lM
theorem Oh{p:Prop}(h:p:=by
 go_wp2_with fail;go_round;case rel=>exact⟨k+1,_,lK,by go_num,by rw[hor.out],hnx⟩
 case measure=>simp[jA];omega):p:=h
theorem LJ{p:Prop}(h:p:=by
 obtain rfl:k=s.size:=lK;go_wp2_with fail;go_returns;exact⟨by rw[hv.out,List.take_of_length_le lU];rfl,rfl⟩):p:=h
theorem qC(s:ByteArray)(w:iH)(E:1<=s.size)(J:s.size<=8):
  iU iG 93 #[ll s] w λe w'=>e=lF (lD #[lg lI (nT s.data.toList),lg lH 0])/\w=w':=by
 have c1:=iF (BM s.size w E J);go_in;go_wp2_with fail;refine c1.out.mono ?_;rintro e w' ⟨rfl,rfl⟩;go_wp2_with fail;go_loop [5,15] (λC i=>∃k n:Nat,k<=s.size/\i=lg lH k/\C=lg lI n/\iW (n=nT (s.data.toList.take k))) (λ_ i=>s.size -(jA i).toNat);case atStart=>exact⟨0,0,lK,rfl,rfl,by simp[nT,iW]⟩
 case round=>
  obtain⟨k,n,hk,rfl,rfl,hv⟩:=hrel;by_cases c:k<s.size
  .have hb:s[k].toNat<=255:=by have:=s[k].toNat_lt;omega
   have A:(s.data.toList.take k).length=k:=by rw[ky];simp;omega
   have hn:n<256^k:=by have:=qH (s.data.toList.take k);rw[A]at this;rw[hv.out];exact this
   have hor:=iF (YH n s[k].toNat k lK hn lK);have hnx:iW (n+256^k*s[k].toNat=nT (s.data.toList.take (k+1))):=by unfold iW;rw[LH s k c,PZ,hv.out,A]
   clear hn A;exact Oh
  .exact LJ
theorem uo(s:ByteArray)(w:iH)(h:s.size=0):
  iU iG 93 #[ll s] w λe w'=>e=lF (lD #[lg lI 0,lg lH 1])/\w=w':=by
 have c1:=iF (E5 w);go_in;go_wp2_with fail;refine c1.out.mono ?_;rintro e w' ⟨rfl,rfl⟩;go_wp2_with fail;go_returns;exact⟨rfl,rfl⟩
theorem zb(s:ByteArray)(w:iH)(h:8<s.size):
  iU iG 93 #[ll s] w λe w'=>e=lF (lD #[lg lI 0,lg lH 5])/\w=w':=by
 have c1:=iF (E8 s.size w h);go_in;go_wp2_with fail;refine c1.out.mono ?_;rintro e w' ⟨rfl,rfl⟩;go_wp2_with fail;go_returns;exact⟨rfl,rfl⟩
def sj(l:List UInt8):Nat×Nat×Nat:=
 if(ma l 0 0).2.2=0 then if 4294967295<(ma l 0 0).1 then(0,0,5)else ma l 0 0 else(0,0,(ma l 0 0).2.2)
theorem ze{p:Prop}(h:p:=by
 go_in;go_wp2_with fail;refine(C1.out _).mono ?_;rintro e w' ⟨rfl,rfl⟩;go_wp2_with fail;go_returns;exact⟨rfl,rfl⟩):p:=h
theorem P5(s:ByteArray)(w:iH)(hs:s.size<=jb):
  iU iG 188 #[ll s] w λe w'=>e=lF (lD #[lg lH (sj s.data.toList).1,lg lH (sj s.data.toList).2.1,lg lH (sj s.data.toList).2.2])/\w=w':=by
 have c1:=λw=>zG s w hs
 have hp:sj s.data.toList=if(ma s.data.toList 0 0).2.2=0 then if 4294967295<(ma s.data.toList 0 0).1 then(0,0,5)else ma s.data.toList 0 0 else(0,0,(ma s.data.toList 0 0).2.2):=rfl
 have hlt:=λN K h=>(qQ (l:=s.data.toList) (N:=N) (K:=K) h).2.1
 unfold jb at hs;generalize sj s.data.toList=r at*;generalize ma s.data.toList 0 0=t at*;obtain⟨n,k,e⟩:=t;have C1:iW (∀w,iU iG 126 #[ll s] w λC w'=>C=lF (lD #[lg lI n,lg lH k,lg lH e])/\w=w'):=c1;clear c1;by_cases he:e=0
 .subst he
  have hn:=hlt n k rfl;clear hlt;rw[if_pos rfl]at hp;by_cases A:4294967295<n
  .rw[if_pos A]at hp
   subst hp;exact ze
  .rw[if_neg A]at hp
   subst hp;have O:n<=4294967295:=lK;clear A;exact ze
 .rw[if_neg he]at hp
  subst hp;have E:((e:Int)==0)=false:=sQ;have J:((e:Int) !=0)=true:=EY;clear he hlt;exact ze
theorem P6{l:List UInt8}{n k:Nat}(h:sj l=(n,k,0)):k<=l.length/\n<=4294967295:=by
 unfold sj at h;split at h
 .rename_i h0
  split at h;.cases h
  .rename_i A
   have:=qQ (l:=l) (N:=n) (K:=k) (by rw[h]);rw[h]at A;exact⟨lK,by simpa using A⟩
 .rename_i h0
  injection h with _ h
  injection h with _ h
  exact absurd h h0
def uO(r:RS)(n:Int):Nat:=nT (r.take n).2.data.toList
theorem take_size(r:RS)(n:Nat):(r.take n).2.size<=n:=by
 unfold RS.take;split
 .split
  .exact jy _
  .split
   .exact jy _
   .simp[ja];omega
 .exact jy _
theorem GK(r:RS)(n:Nat)(h:n<=8):(r.take n).2.size=0\/(1<=(r.take n).2.size/\(r.take n).2.size<=8):=by
 have:=take_size r n;omega
theorem Jo(b V:Nat)(r:RS)(x:Int)(n:Nat)(w:iH)(Y:r.Ok)(hb:tT w b r)(c0:w.cell? ⟨V,0,none⟩=some (lq (some ⟨b,0,none⟩)))(af:x=n)(hn:n<=4):
  iU iG 223 #[lg lH x,lq (some ⟨V,0,none⟩)] w (wZ b w (r.take x).1 (lg lH (uO r x:Nat))):=by
 subst af;have ag:=iF (nU b r n w Y hb);have hlt:uO r n<4294967296:=by
  have A:=qH (r.take n).2.data.toList;have ah:(r.take n).2.data.toList.length<=4:=by
   rw[jM];have:=take_size r n;show(r.take n).2.size<=4;omega
  exact jq A (je (jO lM ah) lM)
 have Z:=GK r n lK;have C:=λw A N=>qC (r.take n).2 w A N
 have E:=λw h=>uo (r.take n).2 w h
 have O:uO r n=nT (r.take n).2.data.toList:=rfl;generalize uO r n=ai at*;generalize (r.take n).2=T at*;generalize (r.take n).1=r' at*;have Q:∀w,iU iG 93 #[ll T] w λe w'=>(∃er:Int,e=lF (lD #[lg lI (ai:Nat),lg lH er]))/\w=w':=λw=>by
  rcases Z with h0|⟨A,N⟩
  .have:ai=0:=by rw[O,List.eq_nil_of_length_eq_zero (show T.data.toList.length=0 by simpa using h0)];rfl
   subst this;exact(E w h0).mono λe w' ⟨h,U⟩=>⟨⟨_,h⟩,U⟩
  .rw[O]
   exact(C w A N).mono λe w' ⟨h,U⟩=>⟨⟨_,h⟩,U⟩
 have Q:=iF Q;clear Z C E O Y;unfold wZ at*;go_in;go_wp2_with fail;refine ag.out.mono ?_;rintro e w2 ⟨rfl,aa,J⟩;have ae:=iF (iQ aa J);clear aa J;go_wp2_with fail;refine(Q.out _).mono ?_;rintro e w3 ⟨⟨er,rfl⟩,rfl⟩;go_wp2_with fail;go_returns;exact⟨rfl,ae.out.1,ae.out.2⟩
abbrev uq:jg:=5
abbrev RF:jg:=86
theorem own_ne{w:iH}{B b:Nat}{v:iJ}{l:List UInt8}{cs:Array iJ}{t:jg}(h:mI w B uq v l)(hb:lN w b cs t)(ht:t≠uq):v.ownBlock≠some b:=by
 intro e;rcases h.2 with⟨rfl,_⟩|⟨g,cap,C,rfl,hg,A,_⟩
 .simp[jw]at e
 .simp only[jw,kM]at e
  subst e;unfold lN at hb;rw[A]at hb;simp at hb;exact ht hb.2.symm
def rF(k v:Nat)(r:RS):RS×Nat×Nat:=
 if k=0 then if 60<=v then((r.take ((v:Int) - 59)).1,uO r ((v:Int) - 59)+1,0)else(r,v+1,0)
 else if k=1 then((r.take 1).1,4+v % 8,v/8*256+uO r 1)
 else if k=2 then((r.take 2).1,v+1,uO r 2)
 else((r.take 4).1,v+1,uO r 4)
def wK:Nat->Nat->Nat->List UInt8->List UInt8
 |0,_,_,l=>l
 |f+1,n,A,l=>if n=0 then l else wK f (n - min n A) A (l++(l.drop (l.length - A)).take (min n A))
def uQ(k:Nat)(h:RS×Nat×Nat)(l:List UInt8)(size:Nat):RS×List UInt8:=
 if h.1.f≠0 then(h.1,l)
 else if(k≠0/\(h.2.2=0\/l.length<h.2.2))\/size - l.length<h.2.1 then(h.1.fail 3,l)
 else if k=0 then((h.1.take (h.2.1:Nat)).1,l++(h.1.take (h.2.1:Nat)).2.data.toList)
 else(h.1,wK h.2.1 h.2.1 h.2.2 l)
def qg(r:RS)(l:List UInt8)(size:Nat):RS×List UInt8:=uQ (r.byte.2.toNat % 4) (rF (r.byte.2.toNat % 4) (r.byte.2.toNat/4) r.byte.1) l size
structure GL(B b:Nat)(w0:iH)(r:RS)(v:iJ)(l:List UInt8)(w:iH):Prop where
 own:mI w B uq v l
 rd:tT w b r
 ok:r.Ok
 hB:B<=b
 nV:iK B w0 w
abbrev CRT:jg:=220
theorem YI:CRT≠uq:=lM
section
variable {B b:Nat}{w0 w w':iH}{r r':RS}{v:iJ}{l:List UInt8}
theorem GL.lt(h:GL B b w0 r v l w):b<w.heap.size:=lN.lt h.rd
theorem GL.below(h:GL B b w0 r v l w)(hb:iK w.heap.size w w'):GL B b w0 r v l w':=
 ⟨h.own.below hb,Below.blk hb h.rd h.lt,h.ok,h.hB,h.nV.trans (hb.mono (je h.hB (Nat.le_of_lt h.lt)))⟩
theorem GL.ne(h:GL B b w0 r v l w):v.ownBlock≠some b:=own_ne h.own h.rd YI
theorem GL.read(h:GL B b w0 r v l w)(C:ng b w w')(O:tT w' b r')(hok:r'.Ok):GL B b w0 r' v l w':=by
 refine⟨?_,O,hok,h.hB,C.below h.nV h.hB (je h.hB (Nat.le_of_lt h.lt))⟩;obtain⟨Q,A⟩:=h.own;refine⟨Q,?_⟩;rcases A with A|⟨g,cap,E,J,hg,N,r⟩
 .exact .inl A
 .refine .inr ⟨g,cap,E,J,hg,?_,r⟩
  rw[C.block g (jk.1 N).1 (by
   have:=h.ne;rw[J]at this;simpa [jw,eq_comm]using this)]
  exact N
theorem GL.grow{m:List UInt8}{v':iJ}(h:GL B b w0 r v l w)(ho:mI w' B uq v' (l++m))(hg:w.grownBy w' v.ownBlock):GL B b w0 r v' (l++m) w':=by
 refine⟨ho,?_,h.ok,h.hB,h.nV.grown hg (je h.hB (Nat.le_of_lt h.lt)) λk hk=>(h.own.lt k hk).1⟩;unfold tT lN;rw[hg.block b h.lt (λe=>h.ne e.symm)];exact h.rd
end
theorem AZ(T:ByteArray):T.size=T.data.toList.length:=lU
theorem Wd{w:iH}{B M cp:Nat}{J:Option kr}{l:List UInt8}(U:l.length=M)(h:mI w B uq (lh J M cp) l):M<=cp/\cp<=jb:=by
 rcases h.2 with⟨A,h0⟩|⟨g,cap,Q,A,hg,V,N,O,_⟩
 .injection A with _ C E
  subst C E;exact⟨iI _,jy _⟩
 .injection A with _ C E
  subst C E;exact⟨lK,O⟩
theorem zf:(Tryz.prog.info? uq).map (λi=>(i.zero,i.size,i.bytes))=some (some (lg .u8 0),1,1):=lQ
theorem Jp(r:RS)(n:Nat)(h:n<=4):uO r n<256^n:=by
 have A:=qH (r.take n).2.data.toList;have C:(r.take n).2.data.toList.length<=n:=by
  rw[jM];have:=take_size r n;show(r.take n).2.size<=n;omega
 exact jq A (jO lM C)
theorem We(r:RS)(n:Nat)(h:n<=4):uO r n<4294967296:=jq (Jp r n h) (je (jO lM h) lM)
theorem YJ(r:RS):uO r 1<256:=Jp r 1 lM
theorem R8:∀q:Fin 256,bits BinOp.and IntKind.u8 (q.val:Int) 3=((q.val % 4:Nat):Int):=wJ
theorem a2e(q:Nat)(h:q<=255):bits BinOp.and IntKind.u8 (q:Int) 3=((q % 4:Nat):Int):=R8 ⟨q,lK⟩
theorem R9(r:RS):∃q:Nat,r.byte.2=(q:Int)/\q<=255:=by
 unfold RS.byte;split
 .split
  .rename_i h
   exact⟨r.t[r.p].toNat,rfl,by have:=r.t[r.p].toNat_lt;omega⟩
  .exact⟨0,rfl,lK⟩
 .exact⟨0,rfl,lK⟩
theorem GM{p:Prop}(h:p:=by
 go_wp2_with fail;refine CF.out.mono ?_;rintro e w4 ⟨rfl,rfl⟩;go_wp2_with fail;refine CX.out.mono ?_;rintro e w5 ⟨rfl,hu,hr⟩;have HF:=iF (H3.out.read hu hr YK.out);clear hu hr;go_wp2_with fail;go_returns;exact⟨_,rfl,by rw[HR.out];exact HF.out⟩):p:=h
theorem Sa{p:Prop}(h:p:=by
 clear CL VS;go_wp2_with fail;refine CLL.out.mono ?_;rintro e w3 ⟨rfl,hu,hr⟩;have H3:=iF (H2.out.read hu hr Jq.out);have HB3:=iF (hu.blk P8.out hbg);clear hu hr;go_wp2_with fail;go_meet;exact⟨v+1,X,r2,by congr 1,rfl,lK,lK,HH,H3,HB3⟩):p:=h
theorem GN(B b:Nat)(w0:iH)(r:RS)(v:iJ)(l:List UInt8)(size:Nat)(w:iH)(h:GL B b w0 r v l w)(hl:l.length<=size)(hs:size<=65536):
  iU iG 190 #[lq (some ⟨b,0,none⟩),v,lg lH size] w λe w'=>∃v',e=lF v'/\GL B b w0 (qg r l size).1 v' (qg r l size).2 w':=by
 have H:=iF h;obtain⟨g,hg⟩:=lV w.heap.size;obtain⟨L,hL⟩:=lV l.length;have Y:=iF hL;obtain⟨oa,cap,rfl⟩:∃oa cap,v=lh oa L cap:=by
  rcases h.own.2 with⟨rfl,h0⟩|⟨g,cap,bF,rfl,_⟩
  .exact⟨none,0,by rw[<-hL,h0]⟩
  .exact⟨_,_,by rw[<-hL]⟩
 have cO:∀(fn:Fn)(first cap:Array iJ)(w:iH),(kL fn first cap).run iG w=.ok (.func fn first cap) w:=λ_ _ _ _=>rfl
 have ax:=lN.new w #[lq (some ⟨b,0,none⟩)] 193;have aP:=(iL w.heap.size w).alloc (iI _) (lG #[lq (some ⟨b,0,none⟩)] 193);have ay:=iF (h.below aP);have aY:=h.lt;rw[hg]at ax aY;rw[hL]at hl;have az:=iF ax;obtain⟨R,aZ⟩:=lV (qg r l size);have HR:=iF aZ;rw[aZ];clear h hL ax aP aZ;go_in;go_upto_region 1 with fail;generalize w.alloc _=w1 at*;have c0:=az.out.c0;have aL:=iF (Jf b r w1 ay.out.ok ay.out.rd);unfold wZ at aL;obtain⟨r1,av⟩:=lV r.byte.1;obtain⟨q,bg,bG⟩:∃q:Nat,r.byte.2=(q:Int)/\q<=255:=R9 r;have aM:iW (R=uQ (q % 4) (rF (q % 4) (q/4) r1) l size):=iF (by rw[<-HR.out];unfold qg;rw[av,bg];rfl);have Q:iW r1.Ok:=iF (av▸ay.out.ok.byte);rw[av,bg]at aL;clear av bg HR;go_wp2_with fail;refine aL.out.mono ?_;rintro e w2 ⟨rfl,aA,aQ⟩;have hbg:g≠b:=lK;have P8:=iF (aA.blk az.out hbg);have H2:=iF (ay.out.read aA aQ Q.out);clear aA aQ c0 aL ay az H;have c0:=P8.out.c0;go_upto_block 0 with fail;obtain⟨k,hk⟩:=lV (q % 4);obtain⟨v,bH⟩:=lV (q/4);have e1:bits BinOp.and IntKind.u8 (q:Int) 3=(k:Int):=by rw[a2e q bG,hk]
 have e2:(q:Int)/4=(v:Int):=lK;simp only[e1,e2];have bq:v<=63:=lK;have bI:k<4:=lK;rw[hk,bH]at aM;clear e1 e2 hk bH;have dC:=iF (iQ bq bI);go_cut [11,12] (λaB bv bJ=>∃(n A:Nat) (r2:RS),aB=lg lH (n:Int)/\bv=lg lH (A:Int)/\n<=4294967296/\A<=4294967296/\iW (rF k v r1=(r2,n,A))/\iW (GL B b w0 r2 (lh oa L cap) l bJ)/\iW (lN bJ g #[lq (some ⟨b,0,none⟩)] 193));case first=>
  have CL:=iF (λ(x:Int) (n:Nat) hx hn=>Jo b g r1 x n w2 Q.out H2.out.rd c0 hx hn);have VS:=iF (λ(n:Nat) hn=>We r1 n hn);unfold wZ at CL;clear aM Y;obtain rfl|rfl|rfl|rfl:k=0\/k=1\/k=2\/k=3:=lK
  .by_cases aR:60<=v
   .have bu:(v:Int) - 59=((v - 59:Nat):Int):=lK
    have CLL:=iF (CL.out ((v:Int) - 59) (v - 59) bu lK);have hlt:=VS.out (v - 59) lK;rw[<-bu]at hlt;have HH:iW (rF 0 v r1=((r1.take ((v:Int) - 59)).1,uO r1 ((v:Int) - 59)+1,0)):=iF (by unfold rF;rw[if_pos rfl,if_pos aR]);have Jq:=iF (Q.out.take ((v:Int) - 59));generalize uO r1 ((v:Int) - 59)=X at*;generalize (r1.take ((v:Int) - 59)).1=r2 at*;clear bu CL VS;go_wp2_with fail;refine CLL.out.mono ?_;rintro e w3 ⟨rfl,hu,hr⟩;have H3:=iF (H2.out.read hu hr Jq.out);have HB3:=iF (hu.blk P8.out hbg);clear hu hr;go_wp2_with fail;go_meet;exact⟨X+1,0,r2,by congr 1,rfl,lK,lK,HH,H3,HB3⟩
   .have HH:iW (rF 0 v r1=(r1,v+1,0)):=iF (by unfold rF;rw[if_pos rfl,if_neg aR])
    clear CL VS;go_wp2_with fail;go_meet;exact⟨v+1,0,r1,by congr 1,rfl,lK,lK,HH,H2,P8⟩
  .have CLL:=iF (CL.out 1 1 rfl lM)
   have hlt:=VS.out 1 lM;have HH:iW (rF 1 v r1=((r1.take 1).1,4+v % 8,v/8*256+uO r1 1)):=iF rfl;have Jq:=iF (Q.out.take 1);have hlt:uO r1 1<4294967296:=hlt;have bV:=YJ r1;generalize uO r1 1=X at*;generalize (r1.take 1).1=r2 at*;clear CL VS;go_wp2_with fail;refine CLL.out.mono ?_;rintro e w3 ⟨rfl,hu,hr⟩;have H3:=iF (H2.out.read hu hr Jq.out);have HB3:=iF (hu.blk P8.out hbg);clear hu hr;go_wp2_with fail;go_meet;exact⟨4+v % 8,v/8*256+X,r2,by congr 1,by congr 1,lK,lK,HH,H3,HB3⟩
  .have CLL:=iF (CL.out 2 2 rfl lM)
   have hlt:uO r1 2<4294967296:=VS.out 2 lM;have HH:iW (rF 2 v r1=((r1.take 2).1,v+1,uO r1 2)):=iF rfl;have Jq:=iF (Q.out.take 2);generalize uO r1 2=X at*;generalize (r1.take 2).1=r2 at*;exact Sa
  .have CLL:=iF (CL.out 4 4 rfl lM)
   have hlt:uO r1 4<4294967296:=VS.out 4 lM;have HH:iW (rF 3 v r1=((r1.take 4).1,v+1,uO r1 4)):=iF rfl;have Jq:=iF (Q.out.take 4);generalize uO r1 4=X at*;generalize (r1.take 4).1=r2 at*;exact Sa
 case rest=>
  obtain⟨n,A,r2,rfl,rfl,hn,bU,HH,H3,HB3⟩:=hcut;have V:iW (R=uQ k (r2,n,A) l size):=iF (by rw[aM.out,HH.out]);have CF:=iF (nR b r2 wc H3.out.rd);have bW:=HB3.out.c0;clear aM HH H2 P8 Q c0;by_cases ae:r2.f=0;case neg=>
   have HR:iW (R=(r2,l)):=iF (by rw[V.out];unfold uQ;rw[if_pos ae]);have cZ:(r2.f !=0)=true:=by simp[ae]
   clear ae V;go_wp2_with fail;refine CF.out.mono ?_;rintro e w4 ⟨rfl,rfl⟩;go_wp2_with fail;go_returns;exact⟨_,rfl,by rw[HR.out];exact H3.out⟩
  rw[ae]at CF;by_cases E:(k≠0/\(A=0\/L<A))\/size - L<n
  .have HR:iW (R=(r2.fail 3,l)):=iF (by rw[V.out];unfold uQ;rw[if_neg (by simpa using ae),if_pos (by rw[Y.out];exact E)])
   have CX:=iF (qX b r2 3 wc H3.out.rd);have YK:=iF (H3.out.ok.fail 3);generalize r2.fail 3=r3 at*;have df:=iF E;have bK:(k=0/\((k:Int) !=0)=false/\size - L<n)\/(((k:Int) !=0)=true/\A=0)\/(((k:Int) !=0)=true/\((A:Int)==0)=false/\L<A)\/(((k:Int) !=0)=true/\((A:Int)==0)=false/\A<=L/\size - L<n):=by
    by_cases O:k=0;.exact .inl ⟨O,by simp[O],E.elim (λh=>absurd O h.1) id⟩
    .have e1:((k:Int) !=0)=true:=by simp[O]
     by_cases hb0:A=0;.exact .inr (.inl ⟨e1,hb0⟩)
     .have e2:((A:Int)==0)=false:=by simp[hb0]
      by_cases aS:L<A;.exact .inr (.inr (.inl ⟨e1,e2,aS⟩))
      .exact .inr (.inr (.inr ⟨e1,e2,lK,E.elim (λh=>by omega) id⟩))
   clear E V ae Y;rcases bK with⟨rfl,e1,e3⟩|⟨e1,rfl⟩|⟨e1,e2,e3⟩|⟨e1,e2,e3,e4⟩
   .exact GM
   .exact GM
   .exact GM
   .exact GM
  .have dh:L+n<=size:=lK
   by_cases O:k=0
   .subst O
    have HR:iW (R=((r2.take (n:Nat)).1,l++(r2.take (n:Nat)).2.data.toList)):=iF (by rw[V.out];unfold uQ;rw[if_neg (by simpa using ae),if_neg (by rw[Y.out];exact E),if_pos rfl]);have bL:=iF (nU b r2 n wc H3.out.ok H3.out.rd);have Jq:=iF (H3.out.ok.take n);have dw:=take_size r2 n;unfold wZ at bL;generalize (r2.take (n:Nat)).1=r3 at*;generalize (r2.take (n:Nat)).2=bz at*;obtain⟨bA,hi,aC,aD,aF⟩:=info_parts zf;clear E V ae;go_wp2_with fail;refine CF.out.mono ?_;rintro e w4 ⟨rfl,rfl⟩;go_wp2_with fail;refine bL.out.mono ?_;rintro e w5 ⟨rfl,hu,hr⟩;have aN:=iF (H3.out.read hu hr Jq.out);have C:=iF aN.out.own;have aG:B<=w5.heap.size:=je aN.out.hB (Nat.le_of_lt aN.out.lt);clear hu hr;unfold mI at C;rw[Y.out]at C;go_wp2_with (at_builtin;refine Lib.wpList_append_own_string _ rfl _ _ 86 9 rfl B 5 bA kC Tryz.underlying9 hi aC aD aF _ _ _ rfl C.out bz rfl ?c3 ?c4 ?c5 ?_);case c3=>unfold jb;omega
    case c4=>omega
    case c5=>exact aG
    intro v' bX U ag _;have HF:=iF (aN.out.grow (m:=bz.data.toList) (v':=v') (by unfold mI;rw[jv,Y.out,nQ,<-AZ bz];exact U) ag);clear U ag;go_wp2_with fail;go_returns;exact⟨_,rfl,by rw[HR.out];exact HF.out⟩
   .have e1:((k:Int) !=0)=true:=by simp[O]
    have hb0:1<=A/\A<=L:=lK;obtain⟨aS,bM⟩:=hb0;have e2:((A:Int)==0)=false:=lW;have e3:((k:Int)==0)=false:=by simp[O]
    have e4:decide (L<A)=false:=decide_eq_false lK;have e5:decide ((size:Int) -(L:Int)<(n:Int))=false:=decide_eq_false lK;have HR:iW (R=(r2,wK n n A l)):=iF (by rw[V.out];unfold uQ;rw[if_neg (by simpa using ae),if_neg (by rw[Y.out];exact E),if_neg O]);obtain⟨aH,ak⟩:=lV (wK n n A l);rw[ak]at HR;have bN:=iF ak;obtain⟨bB,bO⟩:∃bB,oa=some ⟨bB,0,none⟩:=by
     rcases H3.out.own.2 with⟨aT,h0⟩|⟨g,cap,bF,aT,_⟩
     .have:=Y.out;omega
     .injection aT with aO _ _;exact⟨g,aO⟩
    subst bO;obtain⟨bA,hi,aC,aD,aF⟩:=info_parts zf;have bP:L+n<=65536:=lK;clear E V ae O ak;go_wp2_with fail;refine CF.out.mono ?_;rintro e w4 ⟨rfl,rfl⟩;go_wp2_with fail;clear bW CF;go_loopw [1,11] (λlv aB bY=>∃(aa cp J F:Nat) (N:List UInt8),lv=lh (some ⟨aa,0,none⟩) N.length cp/\aB=lg lH (J:Int)/\N.length+J<=65536/\A<=N.length/\iW (J<=F/\wK F J A N=aH)/\iW (GL B b w0 r2 (lh (some ⟨aa,0,none⟩) N.length cp) N bY)) (λ_ aB _=>(jA aB).toNat);case atStart=>exact⟨bB,cap,n,n,l,by rw[Y.out],rfl,by rw[Y.out];omega,by rw[Y.out];exact bM,iF ⟨iI _,bN.out⟩,by rw[Y.out];exact H3⟩
    case round=>
     obtain⟨aa,cp,J,F,N,rfl,rfl,bQ,bR,aI,ah⟩:=hrel;clear H3;obtain⟨M,bC⟩:=lV N.length;have af:=iF bC;rw[bC]at bQ bR ah⊢;clear bC;by_cases aU:J=0
     .subst aU
      have bZ:iW (N=aH):=iF (by have:=aI.out.2;cases F<;>simpa [wK]using this);go_wp2_with fail;go_returns;refine⟨_,rfl,?_⟩;rw[HR.out,<-bZ.out];exact ah.out
     .have aV:M<=cp/\cp<=jb:=Wd af.out ah.out.own
      have cz:0<J:=lK;unfold jb at aV;obtain⟨cB,cK⟩:=aV;clear aU;go_upto_region 23 with fail;go_upto_region 25 with fail;obtain⟨p,hp⟩:=lV (min J A);have aJ:(if A<J then(A:Int)else(J:Int))=(p:Int):=by split<;>omega
      simp only[aJ,Int.toNat_natCast];have aW:1<=p/\p<=A/\p<=J:=lK;obtain⟨aW,dx,dz⟩:=aW;obtain⟨part,Z⟩:=lV ((N.drop (M - A)).take p);have aX:part.length=p:=by rw[<-Z,ky,jS,af.out];omega
      obtain⟨au,rfl⟩:∃au,F=au+1:=⟨F - 1,by have:=aI.out.1;omega⟩;have bS:iW (J - p<=au/\wK au (J - p) A (N++part)=aH):=iF ⟨by have:=aI.out.1;omega,by
       have aO:=aI.out.2;rw[show wK (au+1) J A N=if J=0 then N else wK au (J - min J A) A (N++(N.drop (N.length - A)).take (min J A))from rfl,if_neg lK,hp,af.out,Z]at aO;exact aO⟩
      have ai:iW (∀j u,(l5 part)[j]? =some u->wr.cell? ((⟨aa,M - A,none⟩:kr).add j)=some u):=iF λj u bT=>by
       have e1:(⟨aa,M - A,none⟩:kr).add j=⟨aa,M - A+j,none⟩:=EZ;have e2:(⟨aa,0,none⟩:kr).add (M - A+j)=⟨aa,M - A+j,none⟩:=EZ;rw[e1,<-e2];have dA:j<part.length:=by have:=(jH.1 bT).1;simpa using this
       have C:=ah.out.own;refine World.ownsRow.cells C (g:=aa) rfl (M - A+j) u ?_;rw[<-bT];unfold l5;rw[List.getElem?_map,List.getElem?_map];congr 1;rw[<-Z,List.getElem?_take_of_lt lK,List.getElem?_drop]
      have C:=iF ah.out.own;unfold mI at C;rw[af.out]at C;have aG:B<=wr.heap.size:=je ah.out.hB (Nat.le_of_lt ah.out.lt);have dB:100000<=jb:=wJ;have aj:=iF aX;clear hp aJ Z aX aI;go_upto_region 26 with(at_builtin;go_loud (refine wpList_append_lies wr rfl _ _ RF rfl B uq bA (.int .u8 0) 1 1 kC hi aC aD aF rfl lM (.slice (some ⟨aa,0,none⟩) M cp) M (l5 N) rfl C.out ⟨aa,M - A,none⟩ p _ (l5 part) rfl (by rw[o8,aj.out];omega) ai.out (si _) lK lK lK aG _ rfl ?_);intro g2 aK bX U ag bD bE)
      have HF:=iF (ah.out.grow (m:=part) (v':=lh (some ⟨g2,0,none⟩) (M+p) aK) (by unfold mI;rw[jv,af.out,aj.out,nQ];exact U) ag);clear U ag bD bE C ai;go_wp2_with fail;go_roundw;case rel=>exact⟨g2,aK,J - p,au,N++part,by rw[jv,af.out,aj.out],by congr 1;omega,by rw[jv,af.out,aj.out];omega,by rw[jv,af.out];omega,bS,by rw[jv,af.out,aj.out];exact HF⟩
      case measure=>simp[jA];omega
def LK(mo us ta tq:Int):Array iJ:=#[lg lH mo,lg lH us,lg lH ta,lg lH tq]
theorem P9(n:Int)(w:iH):
  iU iG 32 #[lg lH n] w λe w'=>e=lF (lq (some ⟨w.heap.size,0,none⟩))/\w'=w.alloc (lG (LK (if n<0 then 0 else n) 0 0 0) 119):=by
 by_cases h:n<0
 all_goals
  go_in;go_wp2;go_returns;exact⟨rfl,rfl⟩
def yg(mo us ta n:Int):Int:=if mo - us<n\/9223372036854775807 - ta<n then 5 else 0
theorem GQ{p:Prop}(h:p:=by
 go_in;go_wp2;go_quiet (fail);go_wp2;go_returns;exact⟨rfl,_,rfl⟩):p:=h
theorem take1(b p q:Nat)(mo us ta tq n:Int)(w:iH)(h0:0<=us)(N:us<=mo)(O:mo<=9223372036854775807)(Q:0<=ta)(U:ta<=9223372036854775807)(hb:lN w b (LK mo us ta tq) 119)(hp:w.cell? ⟨p,0,none⟩=some (lg lH n))(V:w.cell? ⟨q,0,none⟩=some (lq (some ⟨b,0,none⟩))):
  iU iG 60 #[lq (some ⟨p,0,none⟩),lq (some ⟨q,0,none⟩)] w λe w'=>e=lF (lg lH (yg mo us ta n))/\∃k,w'=w.drewN k:=by
 have c0:=hb.cell 0;have c1:=hb.cell 1;have c2:=hb.cell 2;simp[LK]at c0 c1 c2;by_cases A:mo - us<n
 .have e:yg mo us ta n=5:=if_pos (.inl A)
  rw[e];clear e;exact GQ
 .have E:decide (mo - us<n)=false:=by simpa using A
  by_cases C:9223372036854775807 - ta<n
  .have e:yg mo us ta n=5:=if_pos (.inr C)
   rw[e];clear e A;exact GQ
  .have e:yg mo us ta n=0:=if_neg lK
   rw[e];have J:decide (9223372036854775807 - ta<n)=false:=by simpa using C
   clear e A C;exact GQ
theorem take2(b p q:Nat)(mo us ta tq n:Int)(w:iH)(h0:0<=us+n)(E:us+n<=9223372036854775807)(J:0<=ta+n)(N:ta+n<=9223372036854775807)(A:q≠b)(C:p≠b)(hb:lN w b (LK mo us ta tq) 119)(hp:w.cell? ⟨p,0,none⟩=some (lg lH n))(O:w.cell? ⟨q,0,none⟩=some (lq (some ⟨b,0,none⟩))):
  iU iG 61 #[lq (some ⟨q,0,none⟩),lq (some ⟨p,0,none⟩)] w λe w'=>e=lF (lD #[])/\ng b w w'/\lN w' b (LK mo (us+n) (ta+n) tq) 119:=by
 have c1:=hb.cell 1;have c2:=hb.cell 2;have f1:=hb.free 1;have f2:=hb.free 2;simp[LK]at c1 c2;go_in;go_wp2;go_region;go_wp2;go_region;go_wp2;go_returns;exact⟨rfl,(((ng.refl b w).set 1 _).set 2 _).drew.drew,(hb.set 1 _).set 2 _⟩
def Ye(b:Nat)(w:iH)(r mo us ta tq:Int):Ending->iH->Prop:=λe w'=>
 e=lF (lg lH r)/\ng b w w'/\lN w' b (LK mo us ta tq) 119
def Qa(a b:Int):Int:=if a<b then b else a
theorem GR(b:Nat)(mo us ta tq n r:Int)(cf C:Array iJ)(w:iH)(hn:0<=n)(N:((r:Int) !=0)=true)(hb:lN w b (LK mo us ta tq) 119)(A:iU iG 60 cf w λe w'=>e=lF (lg lH r)/\∃k,w'=w.drewN k):
  iU iG 59 #[lq (some ⟨b,0,none⟩),lg lH n,.func (.func 60) #[] cf,.func (.func 61) #[] C] w (Ye b w r mo us ta tq):=by
 have E:=iF A;clear A;have J:decide (n<0)=false:=by simpa using hn
 go_in;go_wp2_with fail;refine E.out.mono ?_;rintro e w1 ⟨rfl,k,rfl⟩;go_wp2_with fail;go_returns;exact⟨rfl,⟨rfl,rfl,rfl,iI _,λ_ _ _=>rfl⟩,hb⟩
theorem GU(b:Nat)(mo us ta tq A E n:Int)(cf J:Array iJ)(w:iH)(hn:0<=n)(hb:lN w b (LK mo us ta tq) 119)(N:iU iG 60 cf w λe w'=>e=lF (lg lH 0)/\∃k,w'=w.drewN k)(O:∀k,iU iG 61 J (w.drewN k) λe w'=>e=lF (lD #[])/\ng b (w.drewN k) w'/\lN w' b (LK mo A E tq) 119):
  iU iG 59 #[lq (some ⟨b,0,none⟩),lg lH n,.func (.func 60) #[] cf,.func (.func 61) #[] J] w (Ye b w 0 mo A E (Qa tq A)):=by
 have Q:=iF N;have U:=iF O;clear N O;have Y:decide (n<0)=false:=by simpa using hn
 have Z:(if tq<A then A else tq)=Qa tq A:=rfl;generalize Qa tq A=m at*;go_in;go_wp2_with fail;refine Q.out.mono ?_;rintro e w1 ⟨rfl,k,rfl⟩;go_wp2_with fail;refine(U.out k).mono ?_;rintro e w2 ⟨rfl,V,C⟩;have c1:=C.cell 1;have c3:=C.cell 3;have f3:=C.free 3;simp[LK]at c1 c3;go_wp2_with fail;go_region;go_wp2;go_returns;refine⟨rfl,?_,?_⟩
 .refine ng.trans (v:=w.drewN k) ⟨rfl,rfl,rfl,iI _,λ_ _ _=>rfl⟩ ?_
  exact(V.set 3 _).drew
 .exact C.set 3 _
end
end Go.Proofs.YtamfcjmhnndbdaaGreatDoor


