/- Part 0 of the proof. -/
import Derived.Test.YtamfcjmhnndbdaaGreatDoorZbA
import Derived.Handy
import Derived.BigQuiet
import Derived.Test.YtamfcjmhnndbdaaGreatDoorRows
import Derived.WalkSpells
import Derived.Lib.Strings
import Derived.Deep.AppendLies
import Derived.Lib.AppendStr
import Derived.Deep.CutBlock
import Derived.Deep.DeepCutAuto
import Derived.StillTailTactics
open Go.Value renaming bool→mH,int→V,pointer→mG,slice→G,string→H,tuple→mJ,ownBlock→jK,int→lL
open Go.Obj renaming cells→mM
open Go.IntKind renaming i64→X,u64→mP
open Go.Ending renaming returned→mK,returned→jS
open Go.Lib renaming hid→Y
open Go.Proofs.Tryz renaming prog→iN
open Go renaming World→K,Value→iQ,Calls→iW,maxLen→jd,TypeId→jl,Addr→j4,Program→j6,Oper→kC,Ending→kV,Act→lY,wpList→mq
open Go.RowKit renaming Below→iR,Hid→R,intOf→jF
open And renaming intro→iU
open List renaming replicate→jC,length→lQ
open Go.World renaming setCell→jr,cell?→lV
open Array renaming replicate→ku
open UInt8 renaming ofNat→jH
open Go.Code renaming region→jZ
open Go.Region renaming ready→kI,Mode→kW,binds→lD
open Go.Sem renaming run→lJ
open Option renaming none→U,some→O
open Bool renaming true→u,false→M
open Go.Addr renaming mk→Z
open Decidable renaming decide→As
namespace Go.Proofs.YtamfcjmhnndbdaaGreatDoor
set_option linter.unusedVariables false
set_option linter.defProp false
set_option linter.unusedSimpArgs false
set_option maxRecDepth 100000
set_option maxHeartbeats 8000000
def a8:=@decide_eq_true
def bb:=@decide_eq_true_eq
def bh:=@decide_eq_false
def bj:=@beq_eq_false_iff_ne
def bx:=@decide_eq_decide
def b2:=@of_decide_eq_true
def b8:=@decide_eq_false_iff_not
def ce:=@bne_iff_ne
def cg:=@ByteArray.size_append
def cj:=@List.getElem?_take_of_lt
def cm:=@Nat.mul_le_mul_right
def co:=@Nat.le_add_right
def cw:=@List.getElem?_of_mem
def cy:=@Array.getElem?_setIfInBounds_self
def cC:=@List.append_assoc
def cD:=@List.flatMap_cons
def cE:=@List.map_nil
def cF:=@Int.toNat_natCast
def cG:=@Nat.le_of_lt
def cH:=@if_true
def cI:=@Bool.and_false
def cJ:=@List.replicate_succ
def cM:=@Bool.or_eq_true
def cN:=@Nat.mod_lt
def cP:=@List.cons_append
def cQ:=@Nat.lt_of_le_of_lt
def cS:=@ByteArray.ext
def cT:=@Prod.mk.injEq
def cU:=@if_false
def cV:=@List.eq_nil_of_length_eq_zero
def cW:=@List.nil_append
def cX:=@List.length_map
def cY:=@Int.toNat_of_nonneg
def c9:=@ByteArray.data_extract
def db:=@Nat.mul_comm
def dc:=@List.map_toArray
def dg:=@Int.tmod_eq_emod_of_nonneg
def dj:=@List.getElem?_drop
def dk:=@Int.tdiv_eq_ediv_of_nonneg
def dl:=@List.getElem?_eq_none
def dp:=@List.length_set
def dq:=@List.length_nil
def dr:=@List.take_left'
def dt:=@Int.le_refl
def du:=@List.take_add_one
def dv:=@Array.toList_extract
def dy:=@not_not_intro
def dT:=@Nat.mul_assoc
def ea:=@Bool.and_true
def eb:=@List.reverse_append
def ee:=@List.take_append_of_le_length
def ef:=@List.drop_eq_nil_of_le
def eh:=@Int.natCast_mul
def ei:=@Bool.eq_iff_iff
def ej:=@List.length_singleton
def el:=@Bool.not_eq_true'
def eo:=@List.getElem?_map
def ep:=@Bool.or_eq_false_iff
def et:=@Nat.mul_le_mul
def ew:=@UInt32.toNat_xor
def ey:=@List.getElem_mem
def eC:=@List.foldl_cons
def eE:=@Nat.mul_add
def jJ:=@Array.getD_eq_getD_getElem?
def mi:=@Array.getElem?_eq_none
def jE:=@Array.getElem?_eq_some_iff
def kg:=@Array.getElem?_modify
def jR:=@Array.length_toList
def ma:=@Array.toList_append
def je:=@Bool.and_eq_true
def kM:=@Bool.false_eq_true
def lX:=@Bool.true_and
def ko:=@ByteArray.extract_extract
def iV:=@ByteArray.size_extract
def lI:=@Go.Lib.extract_data
def kJ:=@Go.Lib.size_eq
def kE:=@Go.Proofs.Tryz.results173
def l6:=@Go.Proofs.Tryz.underlying3
def lF:=@Go.Proofs.Tryz.underlying33
def kQ:=@Go.Proofs.Tryz.underlying86
def l8:=@Go.Proofs.Tryz.underlying9
def lK:=@Go.Result.andThen_ok
def jh:=@Go.RowKit.Below.heap_setCell
def iT:=@Go.RowKit.Below.refl
def jY:=@Go.World.size_alloc
def iY:=@Go.bodyPost_ret
def jT:=@Go.wpQuiet_nil
def kz:=@List.all_eq_true
def lH:=@List.drop_eq_getElem_cons
def kZ:=@List.drop_succ_cons
def ll:=@List.drop_zero
def jN:=@List.getD_eq_getElem?_getD
def kr:=@List.getElem?_append_left
def kX:=@List.getElem?_append_right
def jc:=@List.getElem?_cons_succ
def jb:=@List.getElem?_cons_zero
def ja:=@List.getElem?_eq_getElem
def jU:=@List.getElem?_eq_some_iff
def lM:=@List.getElem?_take
def ji:=@List.getElem?_toArray
def jo:=@List.length_append
def jD:=@List.length_cons
def jP:=@List.length_drop
def j5:=@List.length_eq_zero_iff
def lC:=@List.length_reverse
def jQ:=@List.length_take
def lg:=@List.map_cons
def l5:=@List.mem_cons
def lT:=@List.mem_of_find?_eq_some
def jq:=@List.mem_of_getElem?
def lu:=@List.mem_range
def lU:=@List.reverse_reverse
def iX:=@List.setIfInBounds_toArray
def jf:=@List.set_cons_succ
def jg:=@List.set_cons_zero
def lh:=@List.size_toArray
def kS:=@List.take_append_drop
def ky:=@List.take_length
def kK:=@List.take_of_length_le
def jm:=@List.take_succ_cons
def jI:=@List.take_zero
def lW:=@List.toList_toArray
def j3:=@Nat.add_assoc
def lq:=@Nat.add_mul
def mh:=@Nat.add_zero
def kP:=@Nat.le_of_eq
def iP:=@Nat.le_refl
def jO:=@Nat.le_succ
def jk:=@Nat.le_trans
def jy:=@Nat.lt_of_lt_of_le
def jL:=@Nat.lt_or_ge
def jV:=@Nat.lt_succ_self
def lZ:=@Nat.min_eq_left
def kR:=@Nat.pow_le_pow_right
def kD:=@Nat.pow_succ
def l9:=@Nat.two_pow_add_eq_or_of_lt
def mg:=@Nat.zero_add
def jB:=@Nat.zero_le
def mf:=@Ne.symm
def jA:=@Option.bind_eq_some_iff
def jG:=@Option.bind_some
def kU:=@Option.some.inj
def lS:=@Option.some.injEq
def kH:=@UInt8.toNat_inj
variable{A C E J N aa ae af:iQ}{B b k m n q:Nat}{P:j6}{Q:Exit->lY->K->Prop}{W w w' w0:K}{a:Array iQ}{aE:K->Prop}{l:List AC}{p:Prop}{t:jl}{x:Int}
variable {f:FuncId}{s:An}{most:Int}
def nE{α:Sort _}(a:α):∃b,a=b:=⟨a,rfl⟩
def I(h:p:=by omega):p:=h
def mZ(h:p:=by kernel_rfl):p:=h
def mX(h:p:=by decide):p:=h
def ny(h:p:=by simp):p:=h
def nk(h:p:=by simp;omega):p:=h
def qJ(h:p:=by rw[bj];omega):p:=h
def yE(h:p:=by rw[ce];omega):p:=h
def EA(h:p:=by rw[beq_iff_eq];omega):p:=h
def yF(h:p:=by unfold jd;omega):p:=h
def J3(h:p:=by unfold Addr.add;split<;>simp_all):p:=h
def xh(h:p:=by decide+kernel):p:=h
section
open Go.RowKit
def mY(w:K)(b:Nat)(cs:Array iQ)(t:jl):Prop:=w.heap[b]? =O (mM cs t (0,0))
def mY.lt{cs:Array iQ}(h:mY w b cs t):b<w.heap.size:=(jE.1 h).1
def mY.cell{w:K}{b:Nat}{cs:Array iQ}{t:jl}(h:mY w b cs t)(i:Nat):w.cell? (Z b i U)=cs[i]? :=by
 unfold mY at h;simp[lV,h]
def b5:=@mY.cell
def mY.c0{l:List iQ}(h:mY w b (A::l).toArray t):w.cell? (Z b 0 U)=O A:=h.cell 0
def mY.c1{l:List iQ}(h:mY w b (C::A::l).toArray t):w.cell? (Z b 1 U)=O A:=h.cell 1
def mY.c2{l:List iQ}(h:mY w b (C::E::A::l).toArray t):w.cell? (Z b 2 U)=O A:=h.cell 2
def mY.c3{l:List iQ}(h:mY w b (C::E::J::A::l).toArray t):w.cell? (Z b 3 U)=O A:=h.cell 3
def mY.c4{l:List iQ}(h:mY w b (C::E::J::N::A::l).toArray t):w.cell? (Z b 4 U)=O A:=h.cell 4
def mY.c5{l:List iQ}(h:mY w b (C::E::J::N::aa::A::l).toArray t):w.cell? (Z b 5 U)=O A:=h.cell 5
def mY.c6{l:List iQ}(h:mY w b (C::E::J::N::aa::ae::A::l).toArray t):w.cell? (Z b 6 U)=O A:=h.cell 6
def mY.c7{l:List iQ}(h:mY w b (C::E::J::N::aa::ae::af::A::l).toArray t):w.cell? (Z b 7 U)=O A:=h.cell 7
def mY.free{w:K}{b:Nat}{cs:Array iQ}{t:jl}(h:mY w b cs t)(i:Nat):w.frozen? (Z b i U)=M:=by
 unfold mY at h;simp[World.frozen?,h]
def ec:=@mY.free
def mY.a10{ag ah:iQ}{l:List iQ}(h:mY w b (A :: C :: E :: J :: N :: aa :: ae :: af :: ag :: ah::l).toArray t):w.cell? (Z b 0 U)=O A/\w.cell? (Z b 1 U)=O C/\w.cell? (Z b 2 U)=O E/\w.cell? (Z b 3 U)=O J/\w.cell? (Z b 4 U)=O N/\w.cell? (Z b 5 U)=O aa/\w.cell? (Z b 6 U)=O ae/\w.cell? (Z b 7 U)=O af/\w.cell? (Z b 8 U)=O ag/\w.cell? (Z b 9 U)=O ah:=⟨h.cell 0,h.cell 1,h.cell 2,h.cell 3,h.cell 4,h.cell 5,h.cell 6,h.cell 7,h.cell 8,h.cell 9⟩
def mY.a2{l:List iQ}(h:mY w b (A :: C::l).toArray t):w.cell? (Z b 0 U)=O A/\w.cell? (Z b 1 U)=O C:=⟨h.cell 0,h.cell 1⟩
def mY.a3{l:List iQ}(h:mY w b (A :: C :: E::l).toArray t):w.cell? (Z b 0 U)=O A/\w.cell? (Z b 1 U)=O C/\w.cell? (Z b 2 U)=O E:=⟨h.cell 0,h.cell 1,h.cell 2⟩
def mY.a4{l:List iQ}(h:mY w b (A :: C :: E :: J::l).toArray t):w.cell? (Z b 0 U)=O A/\w.cell? (Z b 1 U)=O C/\w.cell? (Z b 2 U)=O E/\w.cell? (Z b 3 U)=O J:=⟨h.cell 0,h.cell 1,h.cell 2,h.cell 3⟩
def mY.a6{l:List iQ}(h:mY w b (A :: C :: E :: J :: N :: aa::l).toArray t):w.cell? (Z b 0 U)=O A/\w.cell? (Z b 1 U)=O C/\w.cell? (Z b 2 U)=O E/\w.cell? (Z b 3 U)=O J/\w.cell? (Z b 4 U)=O N/\w.cell? (Z b 5 U)=O aa:=⟨h.cell 0,h.cell 1,h.cell 2,h.cell 3,h.cell 4,h.cell 5⟩
def mY.b1{l:List iQ}(h:mY w b (A::l).toArray t):w.cell? (Z b 0 U)=O A/\w.frozen? (Z b 0 U)=M:=⟨h.cell 0,h.free 0⟩
def mY.b3{l:List iQ}(h:mY w b (A :: C :: E::l).toArray t):w.cell? (Z b 0 U)=O A/\w.cell? (Z b 1 U)=O C/\w.cell? (Z b 2 U)=O E/\w.frozen? (Z b 0 U)=M/\w.frozen? (Z b 1 U)=M/\w.frozen? (Z b 2 U)=M:=⟨h.cell 0,h.cell 1,h.cell 2,h.free 0,h.free 1,h.free 2⟩
def mY.b4{l:List iQ}(h:mY w b (A :: C :: E :: J::l).toArray t):w.cell? (Z b 0 U)=O A/\w.cell? (Z b 1 U)=O C/\w.cell? (Z b 2 U)=O E/\w.cell? (Z b 3 U)=O J/\w.frozen? (Z b 0 U)=M/\w.frozen? (Z b 1 U)=M/\w.frozen? (Z b 2 U)=M/\w.frozen? (Z b 3 U)=M:=⟨h.cell 0,h.cell 1,h.cell 2,h.cell 3,h.free 0,h.free 1,h.free 2,h.free 3⟩
def mY.b6{l:List iQ}(h:mY w b (A :: C :: E :: J :: N :: aa::l).toArray t):w.cell? (Z b 0 U)=O A/\w.cell? (Z b 1 U)=O C/\w.cell? (Z b 2 U)=O E/\w.cell? (Z b 3 U)=O J/\w.cell? (Z b 4 U)=O N/\w.cell? (Z b 5 U)=O aa/\w.frozen? (Z b 0 U)=M/\w.frozen? (Z b 1 U)=M/\w.frozen? (Z b 2 U)=M/\w.frozen? (Z b 3 U)=M/\w.frozen? (Z b 4 U)=M/\w.frozen? (Z b 5 U)=M:=⟨h.cell 0,h.cell 1,h.cell 2,h.cell 3,h.cell 4,h.cell 5,h.free 0,h.free 1,h.free 2,h.free 3,h.free 4,h.free 5⟩
def mY.f3{cs:Array iQ}(h:mY w b cs t):w.frozen? (Z b 0 U)=M/\w.frozen? (Z b 1 U)=M/\w.frozen? (Z b 2 U)=M:=⟨h.free 0,h.free 1,h.free 2⟩
def mY.f4{cs:Array iQ}(h:mY w b cs t):w.frozen? (Z b 0 U)=M/\w.frozen? (Z b 1 U)=M/\w.frozen? (Z b 2 U)=M/\w.frozen? (Z b 3 U)=M:=⟨h.free 0,h.free 1,h.free 2,h.free 3⟩
def mY.new(w:K)(cs:Array iQ)(t:jl):mY (w.alloc (mM cs t)) w.heap.size cs t:=heap_alloc_new w _
def mY.alloc{cs:Array iQ}(h:mY w b cs t)(o:Obj):mY (w.alloc o) b cs t:=by
 unfold mY;rw[Below.heap_alloc w o b h.lt];exact h
def mY.drew{cs:Array iQ}(h:mY w b cs t):mY w.drew b cs t:=h
def mY.set{w:K}{b:Nat}{cs:Array iQ}{t:jl}(h:mY w b cs t)(i:Nat)(v:iQ):mY (w.setCell (Z b i U) v) b (cs.setIfInBounds i v) t:=by
 unfold mY at*;simp only[jr];rw[kg,Ax rfl,h];rfl
def eK:=@mY.set
def mY.setOther{w:K}{b:Nat}{cs:Array iQ}{t:jl}(h:mY w b cs t){a:j4}(A:b≠a.block)(v:iQ):mY (w.setCell a v) b cs t:=by
 unfold mY;rw[jh w a v b A];exact h
def cx:=@mY.setOther
def oO(b:Nat)(w w':K):Prop:=w.grownBy w' (O b)
def oO.refl(b:Nat)(w:K):oO b w w:=World.grownBy.refl w _
def b9:=@oO.refl
def oO.trans{ar v:K}(h:oO b ar v)(k:oO b v w):oO b ar w:=
 ⟨k.os.trans h.os,k.tape.trans h.tape,k.output.trans h.output,jk h.size k.size,λi hi A=>(k.block i (jy hi h.size) A).trans (h.block i hi A)⟩
def oO.drew{ar v:K}(h:oO b ar v):oO b ar v.drew:=⟨h.os,h.tape,h.output,h.size,h.block⟩
def oO.of(h:iR w.heap.size w w'):oO b w w':=⟨h.os,h.tape,h.output,h.size,λi hi _=>h.block i hi⟩
def oO.alloc{ar v:K}(h:oO b ar v)(o:Obj):oO b ar (v.alloc o):=h.trans (oO.of ((iT _ _).alloc (iP _) o))
def oO.set{ar v:K}(h:oO b ar v)(i:Nat)(x:iQ):oO b ar (v.setCell (Z b i U) x):=
 h.trans ⟨rfl,rfl,rfl,by simp[jr],λk _ A=>jh _ _ _ _ (λe=>A (by rw[e]))⟩
def oO.xm{ar v:K}(h:oO b ar v){a:j4}(C:ar.heap.size<=a.block)(x:iQ):oO b ar (v.setCell a x):=
 ⟨h.os,h.tape,h.output,by simpa [jr]using h.size,λk hk A=>(jh v a x k I).trans (h.block k hk A)⟩
def oO.blk{c:Nat}{cs:Array iQ}(h:oO b w w')(hc:mY w c cs t)(A:c≠b):mY w' c cs t:=by
 unfold mY;rw[h.block c hc.lt (by simpa using A)];exact hc
def oO.below(h:oO b w w')(hb:iR B w0 w)(hB:B<=b)(A:B<=w.heap.size):iR B w0 w':=
 hb.grown h A λk hk=>by simp at hk;omega
def Below.blk{B c:Nat}{w w':K}{cs:Array iQ}{t:jl}(h:iR B w w')(hc:mY w c cs t)(hlt:c<B):mY w' c cs t:=by
 unfold mY;rw[h.block c hlt];exact hc
def a7:=@Below.blk
def Calls.Ht{args:Array iQ}{v:iQ}(h:iW P f args (w.drewN n) λe w'=>e=mK v/\w.drewN n=w'):iW P f args (w.drewN n) λe A=>e=mK v/\∃m,A=w.drewN m:=
 h.mono λ_ _ ⟨he,C⟩=>⟨he,n,C.symm⟩
def mY.drewN{cs:Array iQ}(h:mY w b cs t)(n:Nat):mY (w.drewN n) b cs t:=h
def rY{c:Code}{a:lY}(F:K->Prop)(hF:F W)(h:∀w,F w->c.wp P Q a w):c.wp P Q a W:=h W hF
def pG{v:iQ}{Q:kV->K->Prop}(h:iW P f a w λe w'=>e=mK v/\aE w')(k:∀w',aE w'->Q (mK v) w'):iW P f a w Q:=h.mono λ_ _ h=>h.1▸k _ h.2
def vE{v:iQ}{Q:kV->K->Prop}(h:iW P f a w λe w'=>e=mK v/\aE w')(k:Q (mK v) w)(r:∀w',aE w'->w'=w:=by intro _ h;first|exact h|exact h.symm):iW P f a w Q:=pG h λ_ h=>r _ h▸k
def vF{v:iQ}{S:K->Prop}{Q:kV->K->Prop}(h:iW P f a w λe w'=>e=mK v/\aE w'/\S w')(k:∀w',aE w'->S w'->Q (mK v) w'):iW P f a w Q:=pG h λ_ h=>k _ h.1 h.2
def YC{v:iQ}{S T:K->Prop}{Q:kV->K->Prop}(h:iW P f a w λe w'=>e=mK v/\aE w'/\S w'/\T w')(k:∀w',aE w'->S w'->T w'->Q (mK v) w'):iW P f a w Q:=vF h λ_ A h=>k _ A h.1 h.2
def vG:Array iQ->List (Nat×iQ)->Array iQ
 |a,[]=>a
 |a,(i,v)::l=>vG (a.setIfInBounds i v) l
def o7(w:K):∃g,w.heap.size=g:=⟨_,rfl⟩
structure oC(b q:Nat)(w w':K):Prop where
 os:w'.os=w.os
 tape:w'.tape=w.tape
 output:w'.output=w.output
 size:w.heap.size<=w'.heap.size
 block:∀k,k<w.heap.size->k≠b->k≠q->w'.heap[k]? =w.heap[k]?
def oC.refl(b q:Nat)(w:K):oC b q w w:=⟨rfl,rfl,rfl,iP _,λ_ _ _ _=>rfl⟩
def eI:=@oC.refl
def oC.trans{ar v:K}(h:oC b q ar v)(k:oC b q v w):oC b q ar w:=
 ⟨k.os.trans h.os,k.tape.trans h.tape,k.output.trans h.output,jk h.size k.size,λi hi hb A=>(k.block i (jy hi h.size) hb A).trans (h.block i hi hb A)⟩
def oC.drew{ar v:K}(h:oC b q ar v):oC b q ar v.drew:=⟨h.os,h.tape,h.output,h.size,h.block⟩
def oC.drewN{ar v:K}(h:oC b q ar v)(n:Nat):oC b q ar (v.drewN n):=⟨h.os,h.tape,h.output,h.size,h.block⟩
def oC.BU{ar v:K}(h:oC b q ar v)(i:Nat)(x:iQ):oC b q ar (v.setCell (Z b i U) x):=
 h.trans ⟨rfl,rfl,rfl,by simp[jr],λk _ hb _=>jh _ _ _ _ hb⟩
def oC.QS{ar v:K}(h:oC b q ar v)(i:Nat)(x:iQ):oC b q ar (v.setCell (Z q i U) x):=
 h.trans ⟨rfl,rfl,rfl,by simp[jr],λk _ _ A=>jh _ _ _ _ A⟩
def oC.blk{c:Nat}{cs:Array iQ}(h:oC b q w w')(hc:mY w c cs t)(hb:c≠b)(A:c≠q):mY w' c cs t:=by
 unfold mY;rw[h.block c hc.lt hb A];exact hc
def oC.upd{ar:K}(h:oC b q w w')(A:oO b ar w)(E:ar.heap.size<=q):oO b ar w':=
 ⟨h.os.trans A.os,h.tape.trans A.tape,h.output.trans A.output,jk A.size h.size,λk hk C=>
  (h.block k (jy hk A.size) (by simpa using C) I).trans (A.block k hk C)⟩
def oO.drewN{ar v:K}(h:oO b ar v)(n:Nat):oO b ar (v.drewN n):=⟨h.os,h.tape,h.output,h.size,h.block⟩
def nI(l:List AC):List iQ:=l.map λb=> V .u8 (b.toNat:Int)
@[simp] theorem rC (l:List AC):(nI l).length=l.length:=by simp[nI]
def pF(l m:List AC):nI (l++m)=nI l++nI m:=by simp[nI]
def nS(w:K)(B:Nat)(e:jl)(v:iQ)(l:List AC):Prop:=w.ownsRow B e 1 v l.length (nI l)
structure pE(P:j6)(t e s:jl):Prop where
 ht:P.underlying t=O (.slice e)
 he:P.underlying e=O (.int .u8)
 hs:P.underlying s=O .string
 hi:(P.info? e).map (λi=>(i.zero,i.size,i.bytes))=O (O (V .u8 0),1,1)
section
variable {P:j6}{t e s:jl}
def nS.nil(w:K)(B:Nat)(e:jl):nS w B e (G U 0 0) []:=World.ownsRow_nil w B e 1
def nS.made(w:K)(B:Nat)(e:jl)(A:Array iQ)(cap:Nat)(hb:B<=w.heap.size)(C:cap<=jd)(hs:A.size=cap):
  nS (w.alloc (mM A e)) B e (G (O (Z w.heap.size 0 U)) 0 cap) []:=World.ownsRow_made w A cap hb C (by simpa using hs)
def nS.drew{v:iQ}(h:nS w B e v l):nS w.drew B e v l:=World.ownsRow.drew h
def nS.alloc{v:iQ}(h:nS w B e v l)(o:Obj):nS (w.alloc o) B e v l:=World.ownsRow.alloc h o
def nS.below{v:iQ}(h:nS w B e v l)(hb:iR w.heap.size w w'):nS w' B e v l:=by
 obtain⟨J,A⟩:=h;refine⟨J,?_⟩;rcases A with A|⟨g,cap,C,N,hg,E,r⟩
 .exact .inl A
 .refine .inr ⟨g,cap,C,N,hg,?_,r⟩
  rw[hb.block g (jE.1 E).1];exact E
def TU(h:p:=by
 rw[run_convert_bytes_string w t s e _ _ _ T.ht T.he T.hs];simp[Conv.bytesToString,ByteArray.empty,ByteArray.emptyWithCapacity];rfl):p:=h
def nS.string{v:iQ}(T:pE P t e s)(h:nS w B e v l):
  (convert t s v).run P w=.ok (H ⟨l.toArray⟩) w:=by
 rcases h.2 with⟨rfl,h0⟩|⟨g,cap,E,rfl,hb,hg,A,J,hsz,htake⟩
 .have:l=[]:=j5.1 h0
  subst this;exact TU
 .refine run_convert_bytes_back w t s e (Z g 0 U) cap l T.ht T.he T.hs λj C=> ?_
  have:=World.ownsRow.cells h (g:=g) rfl j (V .u8 (l[j].toNat:Int)) (by simp[nI,ja C]);exact this
def Hu(T:pE P t e s)(w:K)(l:List AC)(cs:Array iQ)(n:Nat)(hn:n=l.length)(hcs:cs.toList=nI l)(A:n<=jd):
  (convert t s (G (O (Z w.heap.size 0 U)) n n)).run P (w.alloc (mM cs e))=.ok (H ⟨l.toArray⟩) (w.alloc (mM cs e)):=by
 subst hn;have:nS (w.alloc (mM cs e)) 0 e (G (O (Z w.heap.size 0 U)) l.length l.length) l:=by
  have:=World.ownsRow_lit (base:=0) (e:=e) (size:=1) w cs l.length (jB _) A (by
   have:=congrArg lQ hcs;simpa using this)
  rw[hcs]at this;exact this
 exact this.string T
def a2s(T:pE P t e s)(W:K)(b:Nat)(x:Int)(hc:W.cell? (Z b 0 U)=O (V .u8 x)):
  (convert t s (G (O (Z b 0 U)) 1 1)).run P W=.ok (H ⟨#[jH x.toNat]⟩) W:=by
 have:=run_convert_bytes_arg W t e T.ht T.he b 0 1 1 [x] rfl (λi hi=>by
  have:i=0:=I;subst this;simpa using hc) s T.hs
 simpa [strOfNums]using this
def vH(l:List AC):∀ar∈nI l,ar.oneCell'=u:=by
 intro ar A;simp[nI]at A;obtain⟨b,_,rfl⟩:=A;rfl
def ow(T:pE P t e s){ops:Array kC}{rest:List kC}{o:kC}{a:lY}(E:o.guard=U)(x y:Operand)(ho:o.op=.call {callee:=.builtin .append,args:=#[x,y],argTypes:=#[t,t]})(B:Nat)(v:iQ)(l m:List AC)(k:Nat)(hk:k=m.length)(w:K)(cs:Array iQ)(hcs:cs.toList=nI m)(af:a.eval x=v)(A:nS w B e v l)(hy:a.eval y=G (O (Z w.heap.size 0 U)) k k)(hlen:l.length+k<=140737488355328)(hB:B<=w.heap.size)(h:∀v' w',nS w' B e v' (l++m)->iR B w w'->w.heap.size<w'.heap.size->mq P ops Q rest (a.put o.dst v') w'):
  mq P ops Q (o::rest) a (w.alloc (mM cs e)):=by
 subst hk;have⟨ag,hi,J,N,aa⟩:=info_parts T.hi
 refine wpList_append_own _ E x y t ho B e ag (V .u8 0) 1 1 T.ht hi J N aa rfl mX v l.length (nI l) af (A.alloc _)
  (Z w.heap.size 0 U) m.length m.length (nI m) hy ny ?_ (vH m) yF I nk ?_
 .intro j ar C
  have e1:((Z w.heap.size 0 U):j4).add j=(Z w.heap.size j U):=J3;rw[e1,World.cell?_alloc_mark w cs e (0,0) j,<-C,<-hcs,Array.getElem?_toList]
 .intro v' w' ah ae _
  refine h v' w' ?_ ?_ ?_
  .show w'.ownsRow B e 1 v' (l++m).length (nI (l++m))
   rw[jo,pF];exact ah
  .refine((iT B w).alloc hB _).grown ae nk λj C=> ?_
   exact(World.ownsRow.lt A j C).1
  .have:=ae.size;simp at this;omega
end
structure qX(w:K) where
 at_:K
 is:iR w.heap.size w at_
instance(w:K):Nonempty (qX w):=⟨⟨w,iT _ _⟩⟩
def After(w:K):K->Prop:=λw'=>iR w.heap.size w w'
def After.trans{a b c:K}(h:After a b)(k:After b c):After a c:=Below.trans h (Below.mono k h.size)
def nG{id:Nat}{a:lY}{l:List kC}(E:P.follows .mixedOrders=u)(hB:Region.lexB .any l.toArray=u)(h:wpQuiet P l.toArray (λw'=>∃x:qX w,w'=x.at_) (λA=>∀x:qX w,Q .normal A x.at_) l a):(jZ id l.toArray u).wp P Q a w:=by
 refine wp_region_quiet (C:=λw'=>∃x:qX w,w'=x.at_) E hB ⟨⟨_,(iT _ _).drew⟩,rfl⟩ ?_;have e:(λA:lY=>∀w',(∃x:qX w,w'=x.at_)->Q .normal A w')=λA=>∀x:qX w,Q .normal A x.at_:=by
  funext A;exact propext ⟨λh x=>h _ ⟨x,rfl⟩,λh w' ⟨x,J⟩=>J▸h x⟩
 rw[e];simpa using h
def Calls.after{P:j6}{args:Array iQ}{w:K}{x:qX w}{v:iQ}(h:iW P f args x.at_ λe w'=>e=mK v/\iR x.at_.heap.size x.at_ w'):iW P f args x.at_ λe A=>e=mK v/\∃y:qX w,A=y.at_:=
 h.mono λ_ w' ⟨he,C⟩=>⟨he,⟨w',After.trans x.is C⟩,rfl⟩
def bp:=@Calls.after
def size_mk(l:List AC):(⟨l.toArray⟩:An).size=l.length:=lh
def N9(n:Nat)(h:n<256):(jH n).toNat=n:=by
 show n % 256=n;exact Nat.mod_eq_of_lt h
def EB(A:x=(n:Int))(h:n<256):[lL .u8 x]=nI [jH n]:=by
 subst A;simp[nI,N9 n h]
section
variable {P:j6}{ops:Array kC}{md:kW}{C:K->Prop}
def Oa(P:j6)(md:kW)(ops:Array kC)(C:K->Prop)(n:Nat)(L:Array Bool->lY->Prop):Nat->Array Bool->lY->Prop
 |0,A,a=>L A a
 |f+1,A,a=>kI md ops A≠[]/\∀i∈kI md ops A,i<n/\qOp P ops C i (Oa P md ops C n L f (A.setIfInBounds i u)) a
def CP{n g:Nat}{L:Array Bool->lY->Prop}{Q:Exit->lY->K->Prop}(hL:∀A a w,C w->L A a->wpAny P md ops Q g A a w):
  ∀(f:Nat)(A:Array Bool)(a:lY)(w:K),C w->Oa P md ops C n L f A a->wpAny P md ops Q (f+g) A a w
 |0,A,a,w,E,h=>by rw[mg];exact hL _ _ _ E h
 |f+1,A,a,w,E,h=>by
  rw[show f+1+g=(f+g)+1 by omega];exact⟨λh0=>absurd h0 h.1,λi hi=>wpOp_of_qOp E (λN w' J aa=>CP hL f _ N w' J aa) (h.2 i hi).2⟩
def TV(h:p:=by
 rcases jL j n with h|h
 .exact h
 .exact absurd hj (tail_waits hs hc hn inv _ i rfl hin hun j h)):p:=h
def Ob{i:Nat}{oi:kC}{v:iQ}{L:Array Bool->lY->Prop}(hi:ops[i]? =O oi)(af:∀(j:Nat) (o:kC) cs b,ops[j]? =O o->o.op≠.select cs b)(hs:Region.sinkB md ops n=u)(hc:Region.chainB md ops n=u)(hn:n<ops.size)(hin:i<n)(hdone:∀A a,L A a->∀j∈kI md ops A,n<=j):
  ∀(f:Nat)(A:Array Bool)(a:lY),HeadInv md ops n A->
   (∀j N,ops[j]? =O N->j≠i->A.getD j u=M->(∀e∈N.after,lD md e=u->e.on≠i)->oi.apart ops N=u)->
   i∈kI md ops A->YieldsIn P ops C oi v a->
   Oa P md ops C n L f (A.setIfInBounds i u) (a.put oi.dst v)->Oa P md ops C n L (f+1) A a:=by
 intro f;induction f with
 |zero=>
  intro A a inv _ J hy an;have hun:=(mem_ready.1 J).1;refine⟨λh=>(by rw[h]at J;cases J),λj hj=> ?_⟩;have aa:j<n:=by
   exact TV
  refine⟨aa,?_⟩;by_cases E:j=i;.subst E;exact hy.qOp hi an
  .have:=hdone _ _ an j (ready_mono hj E)
   omega
 |succ f aB=>
  intro A a inv ae J hy an;have hun:=(mem_ready.1 J).1;refine⟨λh=>(by rw[h]at J;cases J),λj hj=> ?_⟩;have aa:j<n:=by
   exact TV
  refine⟨aa,?_⟩;by_cases E:j=i;.subst E;exact hy.qOp hi an
  .have aj:=(an.2 j (ready_mono hj E)).2
   have⟨ag,N,ah,au⟩:=mem_ready.1 hj;have av:∀e∈N.after,lD md e=u->e.on≠i:=λe he hb ax=>by
    have aj:=au e he hb;rw[ax,getD_both hun]at aj;cases aj
   have aD:=qOp_put ah (ae j N ah E ag av) (λcs b=>af i oi cs b hi) (λcs b=>af j N cs b ah) hy aj
   have ai:∀k ok,ops[k]? =O ok->k≠i->(A.setIfInBounds j u).getD k u=M->
     (∀e∈ok.after,lD md e=u->e.on≠i)->oi.apart ops ok=u:=λk ok hk ay hun az=>by
    refine ae k ok hk ay ?_ az;by_cases ak:j=k;.subst ak;exact ag
    .rw[getD_set_ne u ak]at hun;exact hun
   refine qOp_mono (λaF aA=>aB (A.setIfInBounds j u) aF (inv.set hj aa) ai (ready_mono J (mf E)) aA.1 ?_) aD;rw[Array.setIfInBounds_comm _ _ E];exact aA.2
def KF{n g:Nat}{ae:lY->Prop}(J:Region.noSelect ops=u)(hs:Region.sinkB md ops n=u)(hc:Region.chainB md ops n=u)(hn:n<ops.size):
  ∀(l:List kC)(k:Nat)(A:Array Bool)(a:lY),(∀j,j<l.length->l[j]? =ops[k+j]?)->k+l.length=n->HeadInv md ops n A->
  Region.lexHead md ops g l.length k A=u->wpQuiet P ops C ae l a->
  Oa P md ops C n (λE af=>Region.seqB md ops g n E=u/\ae af) l.length A a
 |[],k,A,a,_,hk,_,hB,h=>by
  have:k=n:=by simpa using hk
  subst this;exact⟨by simpa [Region.lexHead]using hB,h⟩
 |o::l,k,A,a,hl,hk,inv,hB,h=>by
  have h0:ops[k]? =O o:=by simpa using(hl 0 ny).symm
  simp only[jD,Region.lexHead,je]at hB;obtain⟨⟨ai,aj⟩,ag⟩:=hB;have N:k<n:=by simp only[jD]at hk;omega
  have aa:k∈kI md ops A:=by simpa using ai
  have ah:qOp P ops C k (wpQuiet P ops C ae l) a:=by unfold qOp;simp only[h0];exact h
  have⟨v,hy,ak⟩:=yieldsIn_of_qOp h0 ah
  exact Ob h0 (Region.noSelect_spec J) hs hc hn N (λE af hL=>seqB_ready hL.1) l.length A a inv (Region.free_spec h0 aj) aa hy
   (KF J hs hc hn l (k+1) _ _ (λj au=>by have:=hl (j+1) nk;simpa [j3,Nat.add_comm 1 j]using this) (by simp only[jD]at hk;omega) (inv.set aa N) ag ak)
def vV{id:Nat}{a:lY}{l:List kC}(n:Nat)(ai:P.follows .mixedOrders=u)(hB:Region.lexTailB .any l.toArray n=u)(aj:C {w with drawn:=w.drawn+1})(h:wpQuiet P l.toArray C (λJ=>∀w',C w'->mq P l.toArray Q (l.drop n) J w') (l.take n) a):(jZ id l.toArray u).wp P Q a w:=by
 simp only[Region.lexTailB,je,bb]at hB;obtain⟨⟨⟨⟨N,hn⟩,hs⟩,hc⟩,aa⟩:=hB;have ak:n<l.length:=by simpa using hn
 have htl:(l.take n).length=n:=nk;have E:(l.drop n).length=l.toArray.size - n:=ny
 have ae:HeadInv .any l.toArray n (ku l.toArray.size M):=
  ⟨ny,λj au _ hl=>(by rw[getD_replicate_false]at hl;cases hl),λt _ ht=>getD_in (by simpa using ht) (getD_replicate_false _ _)⟩
 have an:=KF (md:=.any) (C:=C) (g:=l.toArray.size - n) N hs hc hn (l.take n) 0 _ a (λj af=>by
  have ag:j<n:=by rw[htl]at af;exact af
  simp[ag]) (by simpa using htl) ae (by rw[htl];exact aa) h
 refine wp_region_any ai ?_;have:=CP (Q:=Q) (g:=l.toArray.size - n) (λA J w' ah hL=>by
  have:=wpAny_of_seq (md:=.any) (Q':=Q) (l.drop n) n A J w' (λj=>by simp[dj]) (by rw[E];exact hL.1) (hL.2 w' ah);rwa [E]at this) _ _ _ _ aj an
 rw[htl,show n+(l.toArray.size - n)=l.toArray.size by omega]at this;exact this
def sQ{id:Nat}{a:lY}{l:List kC}(n:Nat)(E:P.follows .mixedOrders=u)(hB:Region.lexTailB .any l.toArray n=u)(h:wpQuiet P l.toArray (λw'=>∃x:qX w,w'=x.at_) (λA=>∀x:qX w,mq P l.toArray Q (l.drop n) A x.at_) (l.take n) a):(jZ id l.toArray u).wp P Q a w:=by
 refine vV (C:=λw'=>∃x:qX w,w'=x.at_) n E hB ⟨⟨_,(iT _ _).drew⟩,rfl⟩ ?_;have e:(λA:lY=>∀w',(∃x:qX w,w'=x.at_)->mq P l.toArray Q (l.drop n) A w')=λA=>∀x:qX w,mq P l.toArray Q (l.drop n) A x.at_:=by
  funext A;exact propext ⟨λh x=>h _ ⟨x,rfl⟩,λh w' ⟨x,J⟩=>J▸h x⟩
 rw[e];exact h
def oZ{id:Nat}{a:lY}{l:List kC}(n:Nat)(E:P.follows .mixedOrders=u)(hB:Region.lexTailB .any l.toArray n=u)(h:wpQuiet P l.toArray (λw'=>∃k,w'=w.drewN k) (λA=>∀k,mq P l.toArray Q (l.drop n) A (w.drewN k)) (l.take n) a):(jZ id l.toArray u).wp P Q a w:=by
 refine vV (C:=λw'=>∃k,w'=w.drewN k) n E hB ⟨1,rfl⟩ ?_;have e:(λA:lY=>∀w',(∃k,w'=w.drewN k)->mq P l.toArray Q (l.drop n) A w')=λA=>∀k,mq P l.toArray Q (l.drop n) A (w.drewN k):=by
  funext A;exact propext ⟨λh k=>h _ ⟨k,rfl⟩,λh w' ⟨k,hk⟩=>hk▸h k⟩
 rw[e];exact h
end
structure RS where
 t:An
 p:Nat
 f:Int
def RS.cs(r:RS):Array iQ:=#[H r.t,V X r.p,V X r.f]
def RS.Ok(r:RS):Prop:=r.p<=r.t.size/\r.t.size<=9223372036854775807
def wL(w:K)(b:Nat)(r:RS):Prop:=mY w b r.cs 220
def YD(b A C q:Nat)(n:Int)(w:K)(h0:n<0)(hn:w.cell? (Z A 0 U)=O (V X n)):
  iW iN 184 #[mG (O (Z A 0 U)),mG (O (Z C 0 U)),mG (O (Z q 0 U))] w λe w'=>e=mK (V X 1)/\w=w':=by
 go_in;go_wp2;go_returns;exact⟨rfl,rfl⟩
def Wd(b A C q:Nat)(t:An)(p:Nat)(f n:Int)(w:K)(hp:p<=t.size)(ht:t.size<=9223372036854775807)(h0:0<=n)(E:(t.size:Int) - p<n)(hb:mY w b (RS.cs ⟨t,p,f⟩) 220)(hn:w.cell? (Z A 0 U)=O (V X n))(J:w.cell? (Z C 0 U)=O (mG (O (Z b 0 U)))):
  iW iN 184 #[mG (O (Z A 0 U)),mG (O (Z C 0 U)),mG (O (Z q 0 U))] w λe w'=>e=mK (V X 2)/\∃k,w'=w.drewN k:=by
 have c0:=hb.cell 0;have c1:=hb.cell 1;simp[RS.cs]at c0 c1;have N:As (n<0)=M:=by simpa using h0
 go_in;go_wp2;go_quiet (fail);go_wp2;go_returns;exact⟨rfl,_,rfl⟩
def a2t(b C E q:Nat)(t:An)(p m:Nat)(f:Int)(w:K)(ht:t.size<=9223372036854775807)(ag:p+m<=t.size)(A:q≠b)(N:E≠q)(aa:C≠q)(hb:mY w b (RS.cs ⟨t,p,f⟩) 220)(J:mY w q #[H ⟨#[]⟩] 9)(hn:w.cell? (Z C 0 U)=O (V X m))(ah:w.cell? (Z E 0 U)=O (mG (O (Z b 0 U)))):
  iW iN 184 #[mG (O (Z C 0 U)),mG (O (Z E 0 U)),mG (O (Z q 0 U))] w λe w'=>e=mK (V X 0)/\oC b q w w'/\
   mY w' b (RS.cs ⟨t,p+m,f⟩) 220/\mY w' q #[H (t.extract p (p+m))] 9:=by
 have c0:=hb.cell 0;have c1:=hb.cell 1;have f1:=hb.free 1;have ae:=J.cell 0;have ai:=J.free 0;simp[RS.cs]at c0 c1 ae;have aj:As ((m:Int)<0)=M:=ny;have ak:As ((t.size:Int) - p<m)=M:=nk;go_in;go_wp2;go_quiet (fail);go_wp2;refine oZ 15 mZ mZ ?_;simp only[jm,jI,kZ,ll];repeat(go_big_quiet_step (fail))
 refine jT ?_;intro af;go_wp2;refine oZ 8 mZ mZ ?_;simp only[jm,jI,kZ,ll];repeat(go_big_quiet_step (fail))
 refine jT ?_;intro au;go_wp2;go_returns;exact⟨rfl,((((eI b q w).drewN _).QS 0 _).BU 1 _).drewN _,((hb.drewN _).setOther (mf A) _).set 1 _,((J.drewN _).set 0 _).setOther A _⟩
def We(b A q:Nat)(t:An)(p:Nat)(f:Int)(w:K)(ht:t.size<=9223372036854775807)(hp:p<=t.size)(C:t.size<=p)(hb:mY w b (RS.cs ⟨t,p,f⟩) 220)(E:w.cell? (Z A 0 U)=O (mG (O (Z b 0 U)))):
  iW iN 259 #[mG (O (Z A 0 U)),mG (O (Z q 0 U))] w λe w'=>e=mK (V X 2)/\∃k,w'=w.drewN k:=by
 have c0:=hb.cell 0;have c1:=hb.cell 1;simp[RS.cs]at c0 c1;go_in;go_wp2;go_quiet (fail);go_wp2;go_returns;exact⟨rfl,_,rfl⟩
def a2u(b C q:Nat)(t:An)(p:Nat)(f:Int)(w:K)(ht:t.size<=9223372036854775807)(aa:p<t.size)(A:q≠b)(J:C≠q)(hb:mY w b (RS.cs ⟨t,p,f⟩) 220)(E:mY w q #[V .u8 0] 5)(ae:w.cell? (Z C 0 U)=O (mG (O (Z b 0 U)))):
  iW iN 259 #[mG (O (Z C 0 U)),mG (O (Z q 0 U))] w λe w'=>e=mK (V X 0)/\oC b q w w'/\
   mY w' b (RS.cs ⟨t,p+1,f⟩) 220/\mY w' q #[V .u8 (t[p].toNat:Int)] 5:=by
 have c0:=hb.cell 0;have c1:=hb.cell 1;have f1:=hb.free 1;have N:=E.cell 0;have af:=E.free 0;simp[RS.cs]at c0 c1 N;go_in;go_wp2;go_quiet (fail);go_wp2;refine oZ 9 mZ mZ ?_;simp only[jm,jI,kZ,ll];repeat(go_big_quiet_step (fail))
 refine jT ?_;intro ag;go_wp2;go_returns;exact⟨rfl,(((eI b q w).drewN _).QS 0 _).BU 1 _,((hb.drewN _).setOther (mf A) _).set 1 _,((E.drewN _).set 0 _).setOther A _⟩
def QT(b A C q:Nat)(n:Int)(w:K)(h0:¬0<n)(hn:w.cell? (Z A 0 U)=O (V X n)):
  iW iN 270 #[mG (O (Z A 0 U)),mG (O (Z C 0 U)),mG (O (Z q 0 U))] w λe w'=>e=mK (V X 0)/\w=w':=by
 go_in;go_wp2;go_returns;exact⟨rfl,rfl⟩
def YE(b C E q:Nat)(t:An)(p m:Nat)(f n:Int)(w:K)(ht:t.size<=9223372036854775807)(hp:p<=t.size)(h0:0<n)(N:m=min n.toNat (t.size - p))(J:q≠b)(hb:mY w b (RS.cs ⟨t,p,f⟩) 220)(A:mY w q #[H ⟨#[]⟩] 9)(hn:w.cell? (Z C 0 U)=O (V X n))(ag:w.cell? (Z E 0 U)=O (mG (O (Z b 0 U)))):
  iW iN 270 #[mG (O (Z C 0 U)),mG (O (Z E 0 U)),mG (O (Z q 0 U))] w λe w'=>e=mK (V X 0)/\oC b q w w'/\
   mY w' b (RS.cs ⟨t,p,f⟩) 220/\mY w' q #[H (t.extract p (p+m))] 9:=by
 have c0:=hb.cell 0;have c1:=hb.cell 1;have aa:=A.cell 0;have ah:=A.free 0;simp[RS.cs]at c0 c1 aa;have ae:(if(t.size:Int) - p<n then(t.size:Int) - p else n)=(m:Int):=by split<;>omega
 have af:p+m<=t.size:=I;clear N;go_in;go_wp2;refine oZ 26 mZ mZ ?_;simp only[jm,jI,kZ,ll];repeat(go_big_quiet_step (fail))
 refine jT ?_;intro k;go_wp2;go_returns;exact⟨rfl,((eI b q w).drewN _).QS 0 _,(hb.drewN _).setOther (mf J) _,(A.drewN _).set 0 _⟩
def Wh(A:Nat)(x:Int)(w:K)(hn:w.cell? (Z A 0 U)=O (V X x)):
  iW iN 225 #[mG (O (Z A 0 U))] w λe w'=>e=mK (V X x)/\w=w':=by
 go_in;go_wp2;go_returns;exact⟨rfl,rfl⟩
def CQ(b:Nat)(r:RS)(v:iQ)(w:K)(A:((r.f:Int)==0)=M)(hb:wL w b r):
  iW iN 183 #[mG (O (Z b 0 U)),v] w λe w'=>e=mK (mJ #[])/\w=w':=by
 obtain⟨t,p,f⟩:=r;have c2:=b5 hb 2;simp[RS.cs]at c2;simp only at A;go_in;go_wp2;go_returns;exact⟨rfl,rfl⟩
def BV(b q:Nat)(t:An)(p C:Nat)(x:Int)(cf:Array iQ)(aE:K->Prop)(w:K)(hb:wL w b ⟨t,p,0⟩)(J:∀w i v,aE w->aE (w.setCell (Z b i U) v))(N:iW iN 184 cf w λe w'=>e=mK (V X x)/\oC b q w w'/\wL w' b ⟨t,C,0⟩/\aE w'):
  iW iN 183 #[mG (O (Z b 0 U)),.func (.func 184) #[] cf] w λe w'=>e=mK (mJ #[])/\oC b q w w'/\wL w' b ⟨t,C,x⟩/\aE w':=by
 have c2:=b5 hb 2;simp[RS.cs]at c2;have aa:=Y N;have ae:=Y J;go_in;go_wp2_with fail;refine YC aa λw1 af A E=> ?_
 have ag:=b5 A 2;have f2:=ec A 2;simp[RS.cs]at ag;go_wp2;go_returns;exact⟨rfl,af.BU 2 _,eK A 2 _,ae _ _ _ E⟩
def Hw(b q:Nat)(t:An)(p C:Nat)(x:Int)(cf:Array iQ)(aE:K->Prop)(w:K)(hb:wL w b ⟨t,p,0⟩)(J:∀w i v,aE w->aE (w.setCell (Z b i U) v))(N:iW iN 259 cf w λe w'=>e=mK (V X x)/\oC b q w w'/\wL w' b ⟨t,C,0⟩/\aE w'):
  iW iN 183 #[mG (O (Z b 0 U)),.func (.func 259) #[] cf] w λe w'=>e=mK (mJ #[])/\oC b q w w'/\wL w' b ⟨t,C,x⟩/\aE w':=by
 have c2:=b5 hb 2;simp[RS.cs]at c2;have aa:=Y N;have ae:=Y J;go_in;go_wp2_with fail;refine YC aa λw1 af A E=> ?_
 have ag:=b5 A 2;have f2:=ec A 2;simp[RS.cs]at ag;go_wp2;go_returns;exact⟨rfl,af.BU 2 _,eK A 2 _,ae _ _ _ E⟩
def FC(b q:Nat)(t:An)(p C:Nat)(x:Int)(cf:Array iQ)(aE:K->Prop)(w:K)(hb:wL w b ⟨t,p,0⟩)(J:∀w i v,aE w->aE (w.setCell (Z b i U) v))(N:iW iN 270 cf w λe w'=>e=mK (V X x)/\oC b q w w'/\wL w' b ⟨t,C,0⟩/\aE w'):
  iW iN 183 #[mG (O (Z b 0 U)),.func (.func 270) #[] cf] w λe w'=>e=mK (mJ #[])/\oC b q w w'/\wL w' b ⟨t,C,x⟩/\aE w':=by
 have c2:=b5 hb 2;simp[RS.cs]at c2;have aa:=Y N;have ae:=Y J;go_in;go_wp2_with fail;refine YC aa λw1 af A E=> ?_
 have ag:=b5 A 2;have f2:=ec A 2;simp[RS.cs]at ag;go_wp2;go_returns;exact⟨rfl,af.BU 2 _,eK A 2 _,ae _ _ _ E⟩
def QU(b q:Nat)(t:An)(p C:Nat)(x:Int)(cf:Array iQ)(aE:K->Prop)(w:K)(hb:wL w b ⟨t,p,0⟩)(J:∀w i v,aE w->aE (w.setCell (Z b i U) v))(N:iW iN 225 cf w λe w'=>e=mK (V X x)/\oO b w w'/\wL w' b ⟨t,C,0⟩/\aE w'):
  iW iN 183 #[mG (O (Z b 0 U)),.func (.func 225) #[] cf] w λe w'=>e=mK (mJ #[])/\oO b w w'/\wL w' b ⟨t,C,x⟩/\aE w':=by
 have c2:=b5 hb 2;simp[RS.cs]at c2;have aa:=Y N;have ae:=Y J;go_in;go_wp2_with fail;refine YC aa λw1 af A E=> ?_
 have ag:=b5 A 2;have f2:=ec A 2;simp[RS.cs]at ag;go_wp2;go_returns;exact⟨rfl,af.set 2 _,eK A 2 _,ae _ _ _ E⟩
abbrev tX:An:=⟨#[]⟩
def RS.of(t:An):RS:=⟨t,0,0⟩
def RS.take(r:RS)(n:Int):RS×An:=
 if r.f=0 then
  if n<0 then(⟨r.t,r.p,1⟩,tX)else if(r.t.size:Int) - r.p<n then(⟨r.t,r.p,2⟩,tX)else(⟨r.t,r.p+n.toNat,0⟩,r.t.extract r.p (r.p+n.toNat))
 else(r,tX)
def RS.byte(r:RS):RS×Int:=
 if r.f=0 then if h:r.p<r.t.size then(⟨r.t,r.p+1,0⟩,(r.t[r.p].toNat:Int))else(⟨r.t,r.p,2⟩,0)else(r,0)
def RS.ahead(r:RS)(n:Int):An:=
 if r.f=0 then if 0<n then r.t.extract r.p (r.p+min n.toNat (r.t.size - r.p))else tX else tX
def RS.fail(r:RS)(x:Int):RS:=if r.f=0 then⟨r.t,r.p,x⟩else r
def RS.Ok.of{t:An}(h:t.size<=9223372036854775807):(RS.of t).Ok:=⟨jB _,h⟩
def RS.Ok.take{r:RS}(h:r.Ok)(n:Int):(r.take n).1.Ok:=by
 obtain⟨C,A⟩:=h;unfold RS.take;split
 .split
  .exact⟨C,A⟩
  .split
   .exact⟨C,A⟩
   .exact⟨by simp only[];omega,A⟩
 .exact⟨C,A⟩
def RS.Ok.byte{r:RS}(h:r.Ok):r.byte.1.Ok:=by
 obtain⟨C,A⟩:=h;unfold RS.byte;split
 .split
  .exact⟨by simp only[];omega,A⟩
  .exact⟨C,A⟩
 .exact⟨C,A⟩
def RS.Ok.fail{r:RS}(h:r.Ok)(x:Int):(r.fail x).Ok:=by
 obtain⟨A,C⟩:=h;unfold RS.fail;split<;>exact⟨A,C⟩
def zW(b:Nat)(w:K)(r:RS)(v:iQ):kV->K->Prop:=λe w'=>e=mK v/\oO b w w'/\wL w' b r
def zX(t:An)(w:K):
  iW iN 144 #[H t] w λe w'=>e=mK (mG (O (Z w.heap.size 0 U)))/\iR w.heap.size w w'/\w.heap.size<w'.heap.size/\wL w' w.heap.size (RS.of t):=by
 go_in;go_wp2;go_returns;exact⟨rfl,(iT _ _).alloc (iP _) _,ny,mY.new _ _ _⟩
def Wi(b:Nat)(r:RS)(w:K)(hb:wL w b r):
  iW iN 212 #[mG (O (Z b 0 U))] w λe w'=>e=mK (V X r.p)/\w=w':=by
 obtain⟨t,p,f⟩:=r;have c:=b5 hb 1;simp[RS.cs]at c;go_in;go_wp2;go_returns;exact⟨rfl,rfl⟩
def pU(b:Nat)(r:RS)(w:K)(hb:wL w b r):
  iW iN 146 #[mG (O (Z b 0 U))] w λe w'=>e=mK (V X r.f)/\w=w':=by
 obtain⟨t,p,f⟩:=r;have c:=b5 hb 2;simp[RS.cs]at c;go_in;go_wp2;go_returns;exact⟨rfl,rfl⟩
def FD(b:Nat)(r:RS)(w:K)(A:r.Ok)(hb:wL w b r):
  iW iN 189 #[mG (O (Z b 0 U))] w λe w'=>e=mK (V X ((r.t.size:Int) - r.p))/\∃k,w'=w.drewN k:=by
 obtain⟨t,p,f⟩:=r;obtain⟨C,E⟩:=A;simp only at C E;have c0:=b5 hb 0;have c1:=b5 hb 1;simp[RS.cs]at c0 c1;go_in;go_wp2;go_quiet (fail);go_wp2;go_returns;exact⟨rfl,_,rfl⟩
def TW(h:p:=by
 rw[hw3];have:=mY.new ((w.alloc (mM #[mG (O (Z b 0 U))] 193)).alloc (mM #[V X n] 3)) #[H tX] 9;rw[jY,jY]at this;exact this):p:=h
def EC(h:p:=by
 rw[hw3]at HH hu3;have q0:=r2.cell 0;rw[hw3]at q0;go_in;go_wp2_with fail;refine YC HH λw4 hu4 hb4 hq4=> ?_
 have q4:=hq4.cell 0;simp at q4;go_wp2;go_returns;exact⟨rfl,hu4.upd hu3 I,hb4⟩):p:=h
def LP(h:p:=by
 go_in;go_wp2_with fail;refine vE (HH _) ?_;go_wp2;go_returns;exact⟨rfl,hu3,hb3⟩):p:=h
def pX(b:Nat)(r:RS)(n:Int)(w:K)(ae:r.Ok)(hb:wL w b r):
  iW iN 145 #[mG (O (Z b 0 U)),V X n] w (zW b w (r.take n).1 (H (r.take n).2)):=by
 obtain⟨t,p,f⟩:=r;obtain⟨N,C⟩:=ae;simp only at N C;have hlt:=mY.lt hb;have⟨w3,hw3⟩:∃w3,w3=(((w.alloc (mM #[mG (O (Z b 0 U))] 193)).alloc (mM #[V X n] 3)).alloc (mM #[H tX] 9)):=⟨_,rfl⟩;have hb3:wL w3 b ⟨t,p,f⟩:=by rw[hw3];exact((mY.alloc hb _).alloc _).alloc _
 have hu3:oO b w w3:=by rw[hw3];exact(((b9 b w).alloc _).alloc _).alloc _
 have r0:w3.cell? (Z w.heap.size 0 U)=O (mG (O (Z b 0 U))):=by rw[hw3];simp[go_sem]
 have r1:w3.cell? (Z (w.heap.size+1) 0 U)=O (V X n):=by rw[hw3];simp[go_sem]
 have r2:mY w3 (w.heap.size+2) #[H tX] 9:=by
  exact TW
 by_cases E:f=0
 .subst E
  by_cases hn:n<0
  .have e:RS.take ⟨t,p,0⟩ n=(⟨t,p,1⟩,tX):=by unfold RS.take;rw[Ax rfl,Ax hn]
   rw[e]
   have an:=BV b (w.heap.size+2) t p p 1 #[mG (O (Z (w.heap.size+1) 0 U)),mG (O (Z w.heap.size 0 U)),mG (O (Z (w.heap.size+2) 0 U))] (λw'=>mY w' (w.heap.size+2) #[H (tX)] 9) w3 hb3
    (λw' i v h=>h.setOther nk v) ((YD b _ _ _ n w3 hn r1).mono λe w' ⟨he,A⟩=>⟨he,A▸eI _ _ _,A▸hb3,A▸r2⟩)
   have HH:=Y an;exact EC
  by_cases J:(t.size:Int) - p<n
  .have e:RS.take ⟨t,p,0⟩ n=(⟨t,p,2⟩,tX):=by unfold RS.take;rw[Ax rfl,At hn,Ax J]
   rw[e]
   have an:=BV b (w.heap.size+2) t p p 2 #[mG (O (Z (w.heap.size+1) 0 U)),mG (O (Z w.heap.size 0 U)),mG (O (Z (w.heap.size+2) 0 U))] (λw'=>mY w' (w.heap.size+2) #[H (tX)] 9) w3 hb3
    (λw' i v h=>h.setOther nk v) ((Wd b _ _ _ t p 0 n w3 N C I J hb3 r1 r0).mono λe w' ⟨he,k,A⟩=>⟨he,A▸(eI _ _ _).drewN k,A▸hb3,A▸r2⟩)
   have HH:=Y an;exact EC
  obtain⟨m,rfl⟩:∃m:Nat,n=m:=⟨n.toNat,I⟩;have e:RS.take ⟨t,p,0⟩ m=(⟨t,p+m,0⟩,t.extract p (p+m)):=by unfold RS.take;rw[Ax rfl,At hn,At J];rfl
  rw[e]
  have an:=BV b (w.heap.size+2) t p (p+m) 0 #[mG (O (Z (w.heap.size+1) 0 U)),mG (O (Z w.heap.size 0 U)),mG (O (Z (w.heap.size+2) 0 U))] (λw'=>mY w' (w.heap.size+2) #[H (t.extract p (p+m))] 9) w3 hb3
   (λw' i v h=>h.setOther nk v) (a2t b _ _ _ t p m 0 w3 C I I I I hb3 r2 r1 r0)
  have HH:=Y an;exact EC
 .have e:RS.take ⟨t,p,f⟩ n=(⟨t,p,f⟩,tX):=by unfold RS.take;rw[At E]
  rw[e];have aa:((f:Int)==0)=M:=by rw[bj];exact E
  have HH:=Y (λv=>CQ b ⟨t,p,f⟩ v w3 aa hb3);rw[hw3]at HH hu3 hb3;have q0:=r2.cell 0;rw[hw3]at q0;exact LP
def LQ(b:Nat)(r:RS)(n:Int)(w:K)(ae:r.Ok)(hb:wL w b r):
  iW iN 247 #[mG (O (Z b 0 U)),V X n] w (zW b w r (H (r.ahead n))):=by
 obtain⟨t,p,f⟩:=r;obtain⟨J,N⟩:=ae;simp only at J N;have hlt:=mY.lt hb;have⟨w3,hw3⟩:∃w3,w3=(((w.alloc (mM #[mG (O (Z b 0 U))] 193)).alloc (mM #[V X n] 3)).alloc (mM #[H tX] 9)):=⟨_,rfl⟩;have hb3:wL w3 b ⟨t,p,f⟩:=by rw[hw3];exact((mY.alloc hb _).alloc _).alloc _
 have hu3:oO b w w3:=by rw[hw3];exact(((b9 b w).alloc _).alloc _).alloc _
 have r0:w3.cell? (Z w.heap.size 0 U)=O (mG (O (Z b 0 U))):=by rw[hw3];simp[go_sem]
 have r1:w3.cell? (Z (w.heap.size+1) 0 U)=O (V X n):=by rw[hw3];simp[go_sem]
 have r2:mY w3 (w.heap.size+2) #[H tX] 9:=by
  exact TW
 by_cases A:f=0
 .subst A
  by_cases hn:0<n
  .have e:RS.ahead ⟨t,p,0⟩ n=t.extract p (p+min n.toNat (t.size - p)):=by unfold RS.ahead;rw[Ax rfl,Ax hn]
   rw[e];have⟨m,C⟩:∃m,m=min n.toNat (t.size - p):=⟨_,rfl⟩;rw[<-C]
   have an:=FC b (w.heap.size+2) t p p 0 #[mG (O (Z (w.heap.size+1) 0 U)),mG (O (Z w.heap.size 0 U)),mG (O (Z (w.heap.size+2) 0 U))] (λw'=>mY w' (w.heap.size+2) #[H (t.extract p (p+m))] 9) w3 hb3
    (λw' i v h=>h.setOther nk v) (YE b _ _ _ t p m 0 n w3 N J hn C I hb3 r2 r1 r0)
   have HH:=Y an;clear an r0 r1 C;exact EC
  have e:RS.ahead ⟨t,p,0⟩ n=tX:=by unfold RS.ahead;rw[Ax rfl,At hn]
  rw[e]
  have an:=FC b (w.heap.size+2) t p p 0 #[mG (O (Z (w.heap.size+1) 0 U)),mG (O (Z w.heap.size 0 U)),mG (O (Z (w.heap.size+2) 0 U))] (λw'=>mY w' (w.heap.size+2) #[H (tX)] 9) w3 hb3
   (λw' i v h=>h.setOther nk v) ((QT b _ _ _ n w3 hn r1).mono λe w' ⟨he,E⟩=>⟨he,E▸eI _ _ _,E▸hb3,E▸r2⟩)
  have HH:=Y an;clear an r0 r1;rw[hw3]at HH hu3;have q0:=r2.cell 0;rw[hw3]at q0;clear r2 hb3;go_in;go_wp2_with fail;refine YC HH λw4 hu4 hb4 hq4=> ?_
  have q4:=hq4.cell 0;simp at q4;go_wp2;go_returns;exact⟨rfl,hu4.upd hu3 I,hb4⟩
 .have e:RS.ahead ⟨t,p,f⟩ n=tX:=by unfold RS.ahead;rw[At A]
  rw[e];have aa:((f:Int)==0)=M:=by rw[bj];exact A
  clear e;have HH:=Y (λv=>CQ b ⟨t,p,f⟩ v w3 aa hb3);rw[hw3]at HH hu3 hb3;have q0:=r2.cell 0;rw[hw3]at q0;clear r2 r0 r1 A;exact LP
def Oc(b:Nat)(r:RS)(w:K)(aa:r.Ok)(hb:wL w b r):
  iW iN 224 #[mG (O (Z b 0 U))] w (zW b w r.byte.1 (V .u8 r.byte.2)):=by
 obtain⟨t,p,f⟩:=r;obtain⟨J,A⟩:=aa;simp only at J A;have hlt:=mY.lt hb;have⟨w3,hw3⟩:∃w3,w3=((w.alloc (mM #[mG (O (Z b 0 U))] 193)).alloc (mM #[V .u8 0] 5)):=⟨_,rfl⟩;have hb3:wL w3 b ⟨t,p,f⟩:=by rw[hw3];exact(mY.alloc hb _).alloc _
 have hu3:oO b w w3:=by rw[hw3];exact((b9 b w).alloc _).alloc _
 have r0:w3.cell? (Z w.heap.size 0 U)=O (mG (O (Z b 0 U))):=by rw[hw3];simp[go_sem]
 have r2:mY w3 (w.heap.size+1) #[V .u8 0] 5:=by
  rw[hw3];have:=mY.new (w.alloc (mM #[mG (O (Z b 0 U))] 193)) #[V .u8 0] 5;rw[jY]at this;exact this
 by_cases C:f=0
 .subst C
  by_cases hp:p<t.size
  .have e:RS.byte ⟨t,p,0⟩=(⟨t,p+1,0⟩,(t[p].toNat:Int)):=by unfold RS.byte;rw[Ax rfl,dif_pos hp]
   rw[e]
   have an:=Hw b (w.heap.size+1) t p (p+1) 0 #[mG (O (Z w.heap.size 0 U)),mG (O (Z (w.heap.size+1) 0 U))] (λw'=>mY w' (w.heap.size+1) #[V .u8 (t[p].toNat:Int)] 5) w3 hb3
    (λw' i v h=>h.setOther nk v) (a2u b _ _ t p 0 w3 A hp I I hb3 r2 r0)
   have HH:=Y an;exact EC
  .have e:RS.byte ⟨t,p,0⟩=(⟨t,p,2⟩,0):=by unfold RS.byte;rw[Ax rfl,dif_neg hp]
   rw[e]
   have an:=Hw b (w.heap.size+1) t p p 2 #[mG (O (Z w.heap.size 0 U)),mG (O (Z (w.heap.size+1) 0 U))] (λw'=>mY w' (w.heap.size+1) #[V .u8 0] 5) w3 hb3
    (λw' i v h=>h.setOther nk v) ((We b _ _ t p 0 w3 A J I hb3 r0).mono λe w' ⟨he,k,E⟩=>⟨he,E▸(eI _ _ _).drewN k,E▸hb3,E▸r2⟩)
   have HH:=Y an;exact EC
 .have e:RS.byte ⟨t,p,f⟩=(⟨t,p,f⟩,0):=by unfold RS.byte;rw[At C]
  rw[e];have N:((f:Int)==0)=M:=by rw[bj];exact C
  have HH:=Y (λv=>CQ b ⟨t,p,f⟩ v w3 N hb3);rw[hw3]at HH hu3 hb3;exact LP
def uI(b:Nat)(r:RS)(x:Int)(w:K)(hb:wL w b r):
  iW iN 191 #[mG (O (Z b 0 U)),V X x] w (zW b w (r.fail x) (mJ #[])):=by
 obtain⟨t,p,f⟩:=r;have hb3:wL (w.alloc (mM #[V X x] 36)) b ⟨t,p,f⟩:=mY.alloc hb _;have hu3:oO b w (w.alloc (mM #[V X x] 36)):=(b9 b w).alloc _;have r0:(w.alloc (mM #[V X x] 36)).cell? (Z w.heap.size 0 U)=O (V X x):=by simp[go_sem]
 by_cases A:f=0
 .subst A
  have e:RS.fail ⟨t,p,0⟩ x=⟨t,p,x⟩:=Ax rfl;rw[e]
  have an:=QU b 0 t p p x #[mG (O (Z w.heap.size 0 U))] (λ_=>True) _ hb3 (λ_ _ _ _=>trivial)
   ((Wh w.heap.size x _ r0).mono λe w' ⟨he,C⟩=>⟨he,C▸b9 _ _,C▸hb3,trivial⟩)
  have HH:=Y an;clear an r0 e hb3;go_in;go_wp2_with fail;refine YC HH λw4 E J _=> ?_
  go_wp2;go_returns;exact⟨rfl,hu3.trans E,J⟩
 .have e:RS.fail ⟨t,p,f⟩ x=⟨t,p,f⟩:=At A
  rw[e];have N:((f:Int)==0)=M:=by rw[bj];exact A
  have HH:=Y (λv=>CQ b ⟨t,p,f⟩ v _ N hb3);clear e r0 A;exact LP
end
variable{r:RS}
section
def nD:List AC->Nat->Nat->Nat×Nat×Nat
 |[],_,_=>(0,0,2)
 |b::r,i,n=>
  if i=9/\1<b.toNat\/0<i/\b.toNat=0 then(0,0,3)
  else if b.toNat<128 then(n+b.toNat % 128*128^i,i+1,0)
  else nD r (i+1) (n+b.toNat % 128*128^i)
def LU(t:Nat×Nat×Nat):iQ:=mJ #[V mP t.1,V X t.2.1,V X t.2.2]
def LV{a b c:Int}{x y z:Nat}(A:a=x)(C:b=y)(E:c=z):
  jS (mJ #[V mP a,V X b,V X c])=mK (LU (x,y,z)):=by rw[A,C,E];rfl
def drop_at(s:An)(k:Nat)(h:k<s.size):s.data.toList.drop k=s[k]::s.data.toList.drop (k+1):=by
 have A:k<s.data.toList.length:=by simpa using h
 rw[lH A];rfl
def xn(s:An)(t:Nat×Nat×Nat)(k n:Nat):Prop:=n<128^k/\nD (s.data.toList.drop k) k n=t
def xn.start(s:An):xn s (nD s.data.toList 0 0) 0 0:=⟨ny,ny⟩
def xn.short{t:Nat×Nat×Nat}(h:xn s t k n)(hk:s.size<=k):t=(0,0,2):=by
 rw[<-h.2,List.drop_of_length_le (by simpa using hk)];rfl
def xn.form{t:Nat×Nat×Nat}(h:xn s t k n)(hk:k<s.size)(c:k=9/\1<s[k].toNat\/0<k/\s[k].toNat=0):t=(0,0,3):=by
 rw[<-h.2,drop_at s k hk,nD,Ax c]
def xn.done{t:Nat×Nat×Nat}(h:xn s t k n)(hk:k<s.size)(c:¬(k=9/\1<s[k].toNat\/0<k/\s[k].toNat=0))(c2:s[k].toNat<128):t=(n+s[k].toNat % 128*128^k,k+1,0):=by
 rw[<-h.2,drop_at s k hk,nD,At c,Ax c2]
def xn.step{t:Nat×Nat×Nat}(h:xn s t k n)(hk:k<s.size)(c:¬(k=9/\1<s[k].toNat\/0<k/\s[k].toNat=0))(c2:128<=s[k].toNat):xn s t (k+1) (n+s[k].toNat % 128*128^k):=by
 refine⟨?_,?_⟩
 .have A:=h.1
  have:s[k].toNat % 128<=127:=I;have C:=cm (128^k) this;rw[kD];omega
 .rw[<-h.2,drop_at s k hk,nD,At c,At I]
def YF(k:Nat)(h:k<=9):128^k<=9223372036854775808:=
 jk (kR mX h) mX
def TY(k:Nat)(h:k<=8):128^k<=72057594037927936:=
 jk (kR mX h) mX
def YG(k b:Nat)(hk:k<=9)(A:k=9->b % 128<=1):b % 128*128^k+128^k<=18446744073709551616:=by
 have hp:=YF k hk;by_cases h:k=9
 .have:=cm (128^k) (A h)
  omega
 .have C:=TY k I
  have E:b % 128<=127:=I;have:=et E C;omega
def a2v(k n b p:Nat)(hk:k<=9)(hn:n<128^k)(hb:b<256)(A:k=9->b % 128<=1)(hp:p=128^k):
  IntKind.u64.wrap ((n:Int)+IntKind.u64.wrap ((b:Int) % 128*(p:Int)))=((n+b % 128*128^k:Nat):Int):=by
 have lt:=YG k b hk A;subst hp
 rw[show((b:Int) % 128*((128^k:Nat):Int))=((b % 128*128^k:Nat):Int)from by rw[eh];rfl,
  IntWalk.u64_in ((b % 128*128^k:Nat):Int) ⟨I,I⟩,<-Int.natCast_add,IntWalk.u64_in _ ⟨I,I⟩]
def a5u(k n b:Nat)(hk:k<=9)(hn:n<128^k)(hb:b<256)(C:k=9->b % 128<=1):
  bits BinOp.or IntKind.u64 (n:Int) (IntKind.u64.wrap (IntKind.u64.wrap (bits BinOp.and IntKind.u8 (b:Int) 127)*2^(7*k)))=
   ((n+b % 128*128^k:Nat):Int):=by
 have hp:=YF k hk;have e1:bits BinOp.and IntKind.u8 (b:Int) 127=((b % 128:Nat):Int):=by
  rw[show(127:Int)=((127:Nat):Int)from rfl,u8_and_nat b 127 hb mX];congr 1;exact Nat.and_two_pow_sub_one_eq_mod b 7
 have e2:(2:Int)^(7*k)=((128^k:Nat):Int):=by
  rw[Int.pow_mul];simp
 have lt:b % 128*128^k+128^k<=18446744073709551616:=by
  by_cases h:k=9
  .have:=cm (128^k) (C h)
   omega
  .have E:128^k<=72057594037927936:=jk (kR mX (show k<=8 by omega)) mX
   have J:b % 128<=127:=I;have:=et J E;omega
 rw[e1,e2,IntWalk.u64_in ((b % 128:Nat):Int) ⟨I,I⟩,<-eh,IntWalk.u64_in _ ⟨I,I⟩,
  u64_or_nat n (b % 128*128^k) I I]
 congr 1;have A:n<2^(7*k):=by rw[Nat.pow_mul];exact hn
 have:=l9 A (b % 128);rw[Nat.pow_mul]at this;rw[Nat.or_comm,db,show(128:Nat)=2^7 from rfl,<-this,Nat.add_comm]
def oz(n:Nat):List AC:=if h:n<128 then [jH n]else jH (n % 128+128)::oz (n/128)
termination_by n
decreasing_by omega
def qW(n:Nat)(h:n<128):oz n=[jH n]:=by rw[oz,dif_pos h]
def wU(n:Nat)(h:128<=n):oz n=jH (n % 128+128)::oz (n/128):=by rw[oz,dif_neg I]
def wV:∀ k n:Nat,n<128^k->(oz n).length<=max 1 k
 |0,n,h=>by rw[qW n (by simp at h;omega)];simp
 |k+1,n,h=>by
  by_cases c:n<128;.rw[qW n c];simp
  .rw[wU n I]
   have:=wV k (n/128) (by rw[kD]at h;omega);simp only[jD];have:k≠0:=by rintro rfl;simp at h;omega
   omega
def zY(t l:List AC)(m:Nat):Prop:=l++oz m=t/\t.length<=10
def zY.start(n:Nat)(h:n<18446744073709551616):zY (oz n) [] n:=by
 refine⟨rfl,?_⟩;have:=wV 10 n (jy h mX);omega
def zY.le{t:List AC}(h:zY t l m):l.length+1<=10:=by
 have A:=congrArg lQ h.1;have C:=h.2;simp only[jo]at A;have:1<=(oz m).length:=by
  by_cases c:m<128;.rw[qW m c];simp
  .rw[wU m I];simp
 omega
def zY.step{t:List AC}(h:zY t l m)(c:128<=m):zY t (l++[jH (m % 128+128)]) (m/128):=by
 refine⟨?_,h.2⟩;rw[cC,<-h.1,wU m c];rfl
def zY.done{t:List AC}(h:zY t l m)(c:m<128):l++[jH m]=t:=by
 rw[<-h.1,qW m c]
def a8c(m:Nat):bits BinOp.or IntKind.u8 ((m:Int) % 256) 128=((m % 128+128:Nat):Int):=by
 rw[show(m:Int) % 256=((m % 256:Nat):Int)from by omega,show(128:Int)=((128:Nat):Int)from rfl,u8_or_nat (m % 256) 128 I mX];congr 1;have key:∀a:Nat,a<256->a|||128=a % 128+128:=xh
 rw[key _ I];omega
def QV(n:Nat):1<=(oz n).length:=by
 by_cases c:n<128;.rw[qW n c];simp
 .rw[wU n I];simp
def a4L{b:AC}(h:n=b.toNat):jH n=b:=by subst h;simp
def Od:∀(r:List AC)(i A N aq:Nat),i<=9->A<128^i->nD r i A=(N,aq,0)->
  ∃m,N=A+m*128^i/\N<18446744073709551616/\aq=i+(oz m).length/\(0<i->0<m)/\oz m<+:r
 |[],i,A,N,aq,hi,J,h=>by simp[nD]at h
 |b::r,i,A,N,aq,hi,J,h=>by
  rw[nD]at h;by_cases c:i=9/\1<b.toNat\/0<i/\b.toNat=0;.rw[Ax c]at h;simp at h
  .rw[At c]at h
   have hb:=b.toNat_lt;by_cases c2:b.toNat<128
   .rw[Ax c2]at h
    simp only[cT]at h;have hlt:=YG i b.toNat hi I;have e:b.toNat % 128=b.toNat:=I;rw[e]at h hlt;refine⟨b.toNat,h.1.symm,I,?_,I,?_⟩;.rw[qW _ c2];exact h.2.1.symm
    .rw[qW _ c2,a4L rfl];exact⟨r,rfl⟩
   .rw[At c2]at h
    have ah:i<=8:=I;have C:A+b.toNat % 128*128^i<128^(i+1):=by
     have:b.toNat % 128<=127:=I;have E:=cm (128^i) this;rw[kD];omega
    have⟨m,aa,E,ae,af,ag⟩:=Od r (i+1) _ N aq I C h;have ai:=af I;have e1:(b.toNat % 128+128*m) % 128+128=b.toNat:=I;have e2:(b.toNat % 128+128*m)/128=m:=I;have e3:oz (b.toNat % 128+128*m)=b::oz m:=by
     rw[wU _ I,e1,e2,a4L rfl]
    refine⟨b.toNat % 128+128*m,?_,E,?_,I,?_⟩
    .rw[aa,kD,lq]
     have:m*(128^i*128)=128*m*128^i:=by rw[db (128^i) 128,<-dT,db m 128]
     omega
    .rw[e3,ae];simp only[jD];omega
    .rw[e3];exact List.cons_prefix_cons.2 ⟨rfl,ag⟩
def rD{N aq:Nat}(h:nD l 0 0=(N,aq,0)):aq<=l.length/\N<18446744073709551616/\oz N=l.take aq/\aq<=10:=by
 have⟨m,C,E,A,_,J⟩:=Od l 0 0 N aq I ny h;simp at C A;subst C;refine⟨by rw[A];exact J.length_le,E,?_,?_⟩;.rw[A];exact(List.prefix_iff_eq_take.1 J)
 .have:=wV 10 N (jy E mX)
  omega
def FE:∀(l:List AC)(i n:Nat),(nD l i n).2.2=0\/nD l i n=(0,0,2)\/nD l i n=(0,0,3)
 |[],i,n=> .inr (.inl rfl)
 |b::r,i,n=>by
  rw[nD];split;.exact .inr (.inr rfl)
  .split
   .exact .inl rfl
   .exact FE r _ _
def CU:∀(l:List AC)(c i n:Nat),nD (l.take c) i n=(0,0,2)\/nD (l.take c) i n=nD l i n
 |[],c,i,n=>by simp
 |b::r,0,i,n=> .inl (by simp[nD])
 |b::r,c+1,i,n=>by
  rw[jm,nD,nD];split;.exact .inr rfl
  .split
   .exact .inr rfl
   .exact CU r c _ _
def og(most:Int)(l:List AC):Nat×Nat×Nat:=
 if(nD l 0 0).2.2=0 then if most<0\/most<((nD l 0 0).1:Int)then(0,0,5)else nD l 0 0 else(0,0,(nD l 0 0).2.2)
structure PF where
 id:Nat
 body:An
 n:Nat
 e:Nat
def PF.bad(e:Nat):PF:=⟨0,⟨#[]⟩,0,e⟩
def nT(most:Int)(s:An):PF:=
 if(og most s.data.toList).2.2=0 then
  if s.size<(og most s.data.toList).2.1+(og most s.data.toList).1 then .bad 2
  else
   (λi:An=>if(nD i.data.toList 0 0).2.2=0 then⟨(nD i.data.toList 0 0).1,i.extract (nD i.data.toList 0 0).2.1 i.size,(og most s.data.toList).2.1+(og most s.data.toList).1,0⟩else .bad 3)
    (s.extract (og most s.data.toList).2.1 ((og most s.data.toList).2.1+(og most s.data.toList).1))
 else .bad (og most s.data.toList).2.2
def ED(id:Nat)(b:An):An:=⟨(oz ((oz id).length+b.size)).toArray⟩++⟨(oz id).toArray⟩++b
def vW(h:og most l=(n,k,0)):nD l 0 0=(n,k,0)/\(n:Int)<=most/\k<=l.length/\k<=10:=by
 unfold og at h;split at h
 .rename_i h0
  split at h;.simp at h
  .rename_i A
   have hk:=rD h;rw[h]at A;simp only at A;exact⟨h,I,hk.1,hk.2.2.2⟩
 .rename_i h0
  simp only[cT]at h;exact absurd h.2.2 h0
def Wj(h:(og most l).2.2≠0):og most l=(0,0,(og most l).2.2):=by
 unfold og at*;split
 .rename_i h0
  rw[Ax h0]at h;split;.rfl
  .rename_i A
   rw[At A]at h;exact absurd h0 h
 .rfl
def Hy(most:Int)(l:List AC)(c:Nat):og most (l.take c)=(0,0,2)\/og most (l.take c)=og most l:=by
 rcases CU l c 0 0 with h|h
 .left;unfold og;rw[h];rfl
 .right;unfold og;rw[h]
def xR(h:(og most s.data.toList).2.2≠0):nT most s=.bad (og most s.data.toList).2.2:=by unfold nT;rw[At h]
def BX(h:og most s.data.toList=(n,k,0))(A:s.size<k+n):nT most s=.bad 2:=by
 unfold nT;rw[h,Ax rfl,Ax A]
def BZ(h:og most s.data.toList=(n,k,0))(C:k+n<=s.size)(A:(nD (s.extract k (k+n)).data.toList 0 0).2.2≠0):nT most s=.bad 3:=by
 unfold nT;rw[h,Ax rfl,At (show¬s.size<k+n by omega)];show(if _ then _ else _)=_;rw[At A]
def Hz{id z:Nat}(h:og most s.data.toList=(n,k,0))(C:k+n<=s.size)(A:nD (s.extract k (k+n)).data.toList 0 0=(id,z,0)):
  nT most s=⟨id,(s.extract k (k+n)).extract z n,k+n,0⟩:=by
 unfold nT;rw[h,Ax rfl,At (show¬s.size<k+n by omega)];show(if _ then _ else _)=_;rw[A,Ax rfl,iV,show min (k+n) s.size - k=n by omega]
def HY(most:Int)(s:An)(c:Nat)(hc:c<=s.size):nT most (s.extract 0 c)=.bad 2\/nT most (s.extract 0 c)=nT most s:=by
 have E:(s.extract 0 c).data.toList=s.data.toList.take c:=by rw[lI];simp
 have J:(s.extract 0 c).size=c:=by rw[iV];omega
 rcases Hy most s.data.toList c with h|h
 .left;rw[<-E]at h;rw[xR (by rw[h];decide),h]
 .rw[<-E]at h
  by_cases h0:(og most s.data.toList).2.2=0
  .have⟨⟨n,k,e⟩,hp⟩:∃t,og most s.data.toList=t:=⟨_,rfl⟩
   rw[hp]at h h0;simp only at h0;subst h0;by_cases N:c<k+n;.left;exact BX h I
   .right
    have ex:(s.extract 0 c).extract k (k+n)=s.extract k (k+n):=by
     rw[ko];congr 1<;>omega
    by_cases A:(nD (s.extract k (k+n)).data.toList 0 0).2.2=0
    .have⟨⟨id,z,e⟩,C⟩:∃t,nD (s.extract k (k+n)).data.toList 0 0=t:=⟨_,rfl⟩
     rw[C]at A;simp only at A;subst A;rw[Hz h I (by rw[ex];exact C),Hz hp I C,ex]
    .rw[BZ h I (by rw[ex];exact A),BZ hp I A]
  .right;rw[xR (by rw[h];exact h0),xR h0,h]
end
section
open Go.RowKit
def TZ(h:p:=by
 clear c c2;go_wp2;go_round;case rel=>exact⟨k+1,_,I,I,by go_num,by rw[hor.out],hs'⟩
 case measure=>simp[jF];omega):p:=h
def YH(h:p:=by
 have ht:=Y (hv.done hlt c c2);by_cases d1:k=9
 .have c1:((k:Int)==9)=u:=EA
  have c5:s[k].toNat<=1:=I;have c3:((s[k].toNat:Int)==0)=M:=qJ;have c4:0<k:=I;clear c d1;go_wp2;go_returns;exact⟨by rw[ht.out];exact LV hor rfl rfl,rfl⟩
 .have c1:((k:Int)==9)=M:=qJ
  by_cases d2:0<k
  .have c3:((s[k].toNat:Int)==0)=M:=qJ
   clear c d1;go_wp2;go_returns;exact⟨by rw[ht.out];exact LV hor rfl rfl,rfl⟩
  .clear c d1
   go_wp2;go_returns;exact⟨by rw[ht.out];exact LV hor rfl rfl,rfl⟩):p:=h
def YI(h:p:=by
 have ht:=Y (hv.form hlt c);by_cases d:k=9
 .have c1:((k:Int)==9)=u:=EA
  by_cases c2:1<s[k].toNat
  .clear c d
   go_wp2;go_returns;exact⟨by rw[ht.out];rfl,rfl⟩
  .have c3:((s[k].toNat:Int)==0)=u:=EA
   have c4:0<k:=I;clear c d;go_wp2;go_returns;exact⟨by rw[ht.out];rfl,rfl⟩
 .have c1:((k:Int)==9)=M:=qJ
  have c3:((s[k].toNat:Int)==0)=u:=EA;have c4:0<k:=I;go_wp2;go_returns;exact⟨by rw[ht.out];rfl,rfl⟩):p:=h
def CV(s:An)(w:K)(hs:s.size<=jd):
  iW iN 126 #[H s] w λe w'=>e=mK (LU (nD s.data.toList 0 0))/\w=w':=by
 unfold jd at hs;have N:=xn.start s;generalize nD s.data.toList 0 0=t at*;go_in
 have⟨m,aa,ae,hm2,A⟩:∃m:Nat,(if(10:Int)<(s.size:Int)then 10 else(s.size:Int))=(m:Int)/\m<=s.size/\m<=10/\(s.size<=m\/10<=m):=
  ⟨min s.size 10,by split<;>omega,I,I,I⟩
 have C:=Y A;go_wp2
 .clear aa
  go_loop [5,11] (λE i=>∃k n:Nat,k<=s.size/\k<=9/\i=V X k/\E=V mP n/\xn s t k n) (λ_ i=>10 -(jF i).toNat);case atStart=>exact⟨0,0,I,I,rfl,rfl,N⟩
  case round=>
   obtain⟨k,n,hk,J,rfl,rfl,hv⟩:=hrel;by_cases af:k<m
   .have hlt:k<s.size:=I
    have hb:s[k].toNat<=255:=by have:=s[k].toNat_lt;omega
    by_cases c:k=9/\1<s[k].toNat\/0<k/\s[k].toNat=0;.exact YI
    .have hor:=Y (a5u k n s[k].toNat J hv.1 I I)
     by_cases c2:s[k].toNat<128;.exact YH
     .have c4:128<=s[k].toNat:=I
      have hs':=hv.step hlt c c4;have c1:((k:Int)==9)=M:=qJ;have ag:k<=8:=I;by_cases d2:0<k
      .have c3:((s[k].toNat:Int)==0)=M:=qJ
       exact TZ
      .exact TZ
   .go_wp2
    go_returns;exact⟨by rw[hv.short (by have:=C.out;omega)];rfl,rfl⟩
end
section
def xQ:Nat->Nat->List AC
 |0,_=>[]
 |k+1,n=>jH (n % 256)::xQ k (n/256)
def oM:List AC->Nat
 |[]=>0
 |b::r=>b.toNat+256*oM r
def zH(n:Nat):List AC:=if h:n=0 then []else jH (n % 256)::zH (n/256)
termination_by n
decreasing_by omega
def sD:zH 0=[]:=by rw[zH,dif_pos rfl]
def vQ(n:Nat)(h:0<n):zH n=jH (n % 256)::zH (n/256):=by rw[zH,dif_neg I]
@[simp] theorem uA:∀ k n:Nat,(xQ k n).length=k
 |0,_=>rfl
 |k+1,n=>by simp[xQ,uA k]
def u8n(n:Nat)(h:n<256):(jH n).toNat=n:=by
 show n % 256=n;exact Nat.mod_eq_of_lt h
def Oe:∀ k n:Nat,xQ (k+1) n=xQ k n++[jH (n/256^k % 256)]
 |0,n=>by simp[xQ]
 |k+1,n=>by
  rw[xQ,Oe k (n/256),xQ,Nat.div_div_eq_div_mul,kD,db 256];rfl
def Og:∀ k n:Nat,n<256^k->oM (xQ k n)=n
 |0,n,h=>by simp at h;subst h;rfl
 |k+1,n,h=>by
  rw[xQ,oM,u8n _ I,Og k (n/256) (by rw[kD]at h;omega)];omega
def qD:∀ l:List AC,oM l<256^l.length
 |[]=>by simp[oM]
 |b::r=>by
  have:=qD r;have hb:=b.toNat_lt;rw[oM,jD,kD];omega
def u8e{b:AC}(h:n=b.toNat):jH n=b:=by subst h;simp
def CW:∀ l:List AC,xQ l.length (oM l)=l
 |[]=>rfl
 |b::r=>by
  have hb:=b.toNat_lt;rw[oM,jD,xQ,u8e (b:=b) I,show(b.toNat+256*oM r)/256=oM r by omega,CW r]
def zZ:∀ l m:List AC,oM (l++m)=oM l+256^l.length*oM m
 |[],m=>by simp[oM]
 |b::r,m=>by
  rw[cP,oM,oM,zZ r m,jD,kD,db (256^r.length) 256,dT];omega
def Ca:∀ k n:Nat,n<256^k->(zH n).length<=k
 |0,n,h=>by simp at h;subst h;simp[sD]
 |k+1,n,h=>by
  by_cases c:n=0;.subst c;simp[sD]
  .rw[vQ n I,jD]
   have:=Ca k (n/256) (by rw[kD]at h;omega);omega
def GH:∀ k n:Nat,n<256^k->xQ k n=zH n++jC (k -(zH n).length) 0
 |0,n,h=>by simp at h;subst h;simp[sD,xQ]
 |k+1,n,h=>by
  by_cases c:n=0
  .subst c
   have:=GH k 0 (Nat.pow_pos mX);simp only[sD,cW,dq,Nat.sub_zero]at this|-;rw[xQ,this];rfl
  .rw[vQ n I,xQ,GH k (n/256) (by rw[kD]at h;omega),jD,cP,Nat.add_sub_add_right]
def Oh(n:Nat):oM (zH n)=n:=by
 induction n using Nat.strongRecOn with
 |_ n A=>
  by_cases c:n=0;.subst c;simp[sD,oM]
  .rw[vQ n I,oM,A (n/256) I,u8n _ I];omega
def T9(k n:Nat):(zH n).length<=k<->n<256^k:=by
 refine⟨λh=> ?_,Ca k n⟩;have:=qD (zH n);rw[Oh]at this;exact jy this (kR mX h)
def a5v(n:Nat):zH n=xQ (zH n).length n:=by
 have:=GH (zH n).length n ((T9 _ _).1 (iP _));simpa using this.symm
def Oi:∀(l:List AC)(b:AC),b.toNat≠0->zH (oM (l++[b]))=l++[b]
 |[],b,h=>by
  have hb:=b.toNat_lt;simp only[cW,oM,Nat.mul_zero,mh];rw[vQ _ I,show b.toNat/256=0 by omega,sD,u8e (b:=b) I]
 |a::r,b,h=>by
  have A:=Oi r b h;have C:=a.toNat_lt;have h0:0<oM (r++[b]):=by
   rw[zZ,oM,oM];have:=Nat.pow_pos (n:=r.length) (show 0<256 by decide);have:=Nat.mul_pos this (show 0<b.toNat+256*0 by omega);omega
  rw[cP,oM,vQ _ I,show(a.toNat+256*oM (r++[b]))/256=oM (r++[b])by omega,A,u8e (b:=a) I]
def YJ(n:Nat)(h:0<n):∃l b,zH n=l++[b]/\b.toNat≠0:=by
 induction n using Nat.strongRecOn with
 |_ n A=>
  by_cases c:n<256
  .refine⟨[],jH n,?_,by rw[u8n n c];omega⟩
   rw[vQ n h,show n/256=0 by omega,sD,Nat.mod_eq_of_lt c];rfl
  .have⟨l,b,C,E⟩:=A (n/256) I I
   exact⟨jH (n % 256)::l,b,by rw[vQ n h,C];rfl,E⟩
def qY(l:List AC):Nat:=oM l.reverse
def KG(l:List AC)(b:AC):qY (l++[b])=256*qY l+b.toNat:=by
 unfold qY;rw[eb];simp[oM];omega
def GI(l:List AC):qY l<256^l.length:=by
 have:=qD l.reverse;rwa [lC]at this
def Wl(l:List AC)(b:AC):oM (l++[b])=oM l+256^l.length*b.toNat:=by
 rw[zZ];simp[oM]
end
section
open Go.RowKit
def NV:pE iN 86 5 9:=⟨kQ,Tryz.underlying5,l8,mZ⟩
def YK(k:Nat):(2:Int)^(8*k)=((256^k:Nat):Int):=by
 rw[Int.pow_mul];simp
def yn(k j n:Nat):List iQ:=nI (xQ j n)++jC (k - j) (V .u8 0)
def Oj(k j n:Nat)(h:j<k):(yn k j n).set j (V .u8 ((n/256^j % 256:Nat):Int))=yn k (j+1) n:=by
 unfold yn;rw[Oe,pF,List.set_append_right _ _ ny,show k - j=(k -(j+1))+1 by omega,cJ];simp[nI,u8n _ (cN (n/256^j) (show 0<256 by decide))]
def Ol(k n:Nat):(nI (xQ k n)).length=k:=ny
def QW(k j n:Nat)(h:j<k):(yn k j n)[j]? =O (V .u8 0):=by
 unfold yn;rw[kX ny,Ol,List.getElem?_replicate,Ax I]
def QX(n k:Nat)(w:K)(hn:n<18446744073709551616)(av:k<=8):
  iW iN 179 #[V mP n,V X k] w λe w'=>e=mK (G (O (Z w.heap.size 0 U)) k k)/\
   nS w' w.heap.size 5 (G (O (Z w.heap.size 0 U)) k k) (xQ k n)/\iR w.heap.size w w':=by
 have⟨aj,hi,ae,af,ag⟩:=info_parts NV.hi;obtain⟨B,hB⟩:=o7 w;have E:B<=w.heap.size:=I;rw[hB];go_in;go_wp2_with (refine wpList_make_full _ rfl (.tmp 7) (.tmp 7) 86 rfl B 5 aj (.int .u8 0) 1 kQ hi ae af .i64 .i64 k k k rfl rfl rfl rfl (by rw[ag];omega) yF E ?_;intro w1 A C);rw[hB]at A;have ah:R ((madeCells (lL .u8 0).cells (k*1)).toList=yn k 0 n):=by
  unfold R yn;rw[show(lL .u8 0).cells=#[V .u8 0]from rfl,toList_madeCells_one];simp[xQ,nI]
 rw[ah.out]at A;have aa:=(iT _ _).grown C E (λ_ h=>by cases h);go_loopw [10] (λi wr=>∃j:Nat,j<=k/\i=V X j/\wr.ownsRow B 5 1 (G (O (Z B 0 U)) k k) k (yn k j n)/\iR B w wr) (λi _=>k -(jF i).toNat);case atStart=>exact⟨0,I,rfl,A,aa⟩
 case round=>
  obtain⟨j,ax,rfl,ho,J⟩:=hrel;by_cases c:j<k
  .have ai:wr.cell? (Z B j U)=O (V .u8 0):=by rw[ho.cellAt j I,QW k j n c]
   have au:=ho.frozenAt j;have ak:R (((n:Int)/2^(8*j) % 256)=((n/256^j % 256:Nat):Int)):=by unfold R;rw[YK];rfl
   have N:=ho.stored j (V .u8 ((n/256^j % 256:Nat):Int));rw[Oj k j n c]at N;go_wp2;go_roundw;case rel=>rw[ak.out];exact⟨j+1,I,by go_num,N.1,J.setCell (p:=(Z B j U)) (iP _) _⟩
   case measure=>simp[jF];omega
  .obtain rfl:j=k:=I
   go_wp2;go_returns;refine⟨rfl,?_,J⟩;have e:yn j j n=nI (xQ j n):=by unfold yn;simp
   unfold nS;rw[uA,<-e];exact ho
def qF(h:p:=by
 go_wp2;go_returns;exact⟨rfl,rfl⟩):p:=h
def J4(w:K):iW iN 127 #[V X 0] w λe w'=>e=mK (V X 1)/\w=w':=by
 go_in;exact qF
def J5(k:Nat)(w:K)(h:8<k):iW iN 127 #[V X k] w λe w'=>e=mK (V X 5)/\w=w':=by
 have h0:((k:Int)==0)=M:=qJ;go_in;exact qF
def FH(k:Nat)(w:K)(A:1<=k)(h:k<=8):iW iN 127 #[V X k] w λe w'=>e=mK (V X 0)/\w=w':=by
 have h0:((k:Int)==0)=M:=qJ;go_in;exact qF
def a5w(n b j:Nat)(C:j<=7)(hn:n<256^j)(hb:b<256):
  bits BinOp.or IntKind.u64 (n:Int) (IntKind.u64.wrap ((b:Int)*2^(8*j)))=((n+256^j*b:Nat):Int):=by
 have hp:256^j<=72057594037927936:=jk (kR mX C) mX;have E:=et (show b<=255 by omega) hp;rw[YK,<-eh,IntWalk.u64_in _ ⟨I,I⟩,u64_or_nat n (b*256^j) I I];congr 1;have A:n<2^(8*j):=by rw[Nat.pow_mul];exact hn
 have:=l9 A b;rw[Nat.pow_mul]at this;rw[Nat.or_comm,db,show(256:Nat)=2^8 from rfl,<-this,Nat.add_comm]
def LW(s:An)(k:Nat)(h:k<s.size):s.data.toList.take (k+1)=s.data.toList.take k++[s[k]]:=by
 rw[List.take_succ_eq_append_getElem (by simpa using h)];rfl
def xq(k:Nat)(h:k<=8):256^k<=18446744073709551616:=jk (kR mX h) mX
def LX(h:p:=by
 obtain rfl:k=s.size:=I;go_wp2;go_returns;exact⟨by rw[hv.out,kK ny];rfl,rfl⟩):p:=h
def Ua(h:p:=by
 go_wp2;go_round;case rel=>exact⟨k+1,_,I,by go_num,by rw[hor.out],hnx⟩
 case measure=>simp[jF];omega):p:=h
def uh(s:An)(w:K)(E:1<=s.size)(J:s.size<=8):
  iW iN 93 #[H s] w λe w'=>e=mK (mJ #[V mP (oM s.data.toList),V X 0])/\w=w':=by
 have c1:=Y (FH s.size w E J);go_in;go_wp2_with fail;refine vE c1 ?_;go_wp2;go_loop [5,15] (λC i=>∃k n:Nat,k<=s.size/\i=V X k/\C=V mP n/\R (n=oM (s.data.toList.take k))) (λ_ i=>s.size -(jF i).toNat);case atStart=>exact⟨0,0,I,rfl,rfl,by simp[oM,R]⟩
 case round=>
  obtain⟨k,n,hk,rfl,rfl,hv⟩:=hrel;by_cases c:k<s.size
  .have hb:s[k].toNat<=255:=by have:=s[k].toNat_lt;omega
   have A:(s.data.toList.take k).length=k:=by rw[jQ];simp;omega
   have hn:n<256^k:=by have:=qD (s.data.toList.take k);rw[A]at this;rw[hv.out];exact this
   have hor:=Y (a5w n s[k].toNat k I hn I);have hnx:R (n+256^k*s[k].toNat=oM (s.data.toList.take (k+1))):=by unfold R;rw[LW s k c,Wl,hv.out,A]
   exact Ua
  .exact LX
def xu(s:An)(w:K)(h:s.size=0):
  iW iN 93 #[H s] w λe w'=>e=mK (mJ #[V mP 0,V X 1])/\w=w':=by
 have c1:=Y (J4 w);go_in;go_wp2_with fail;refine vE c1 ?_;go_wp2;go_returns;exact⟨rfl,rfl⟩
def Cb(s:An)(w:K)(h:8<s.size):
  iW iN 93 #[H s] w λe w'=>e=mK (mJ #[V mP 0,V X 5])/\w=w':=by
 have c1:=Y (J5 s.size w h);go_in;go_wp2_with fail;refine vE c1 ?_;go_wp2;go_returns;exact⟨rfl,rfl⟩
def qG(l:List AC):Nat×Nat×Nat:=
 if(nD l 0 0).2.2=0 then if 4294967295<(nD l 0 0).1 then(0,0,5)else nD l 0 0 else(0,0,(nD l 0 0).2.2)
def Wm(s:An)(w:K)(hs:s.size<=jd):
  iW iN 188 #[H s] w λe w'=>e=mK (mJ #[V X (qG s.data.toList).1,V X (qG s.data.toList).2.1,V X (qG s.data.toList).2.2])/\w=w':=by
 have c1:=λw=>CV s w hs
 have hp:qG s.data.toList=if(nD s.data.toList 0 0).2.2=0 then if 4294967295<(nD s.data.toList 0 0).1 then(0,0,5)else nD s.data.toList 0 0 else(0,0,(nD s.data.toList 0 0).2.2):=rfl
 have hlt:=λN aq h=>(rD (l:=s.data.toList) (N:=N) (aq:=aq) h).2.1
 unfold jd at hs;generalize qG s.data.toList=r at*;generalize nD s.data.toList 0 0=t at*;obtain⟨n,k,e⟩:=t;have A:R (∀w,iW iN 126 #[H s] w λE w'=>E=mK (mJ #[V mP n,V X k,V X e])/\w=w'):=c1;by_cases he:e=0
 .subst he
  have hn:=hlt n k rfl;rw[Ax rfl]at hp;by_cases C:4294967295<n
  .rw[Ax C]at hp
   subst hp;go_in;go_wp2_with fail;refine(A _).mono ?_;rintro e w' ⟨rfl,rfl⟩;exact qF
  .rw[At C]at hp
   subst hp;have ae:n<=4294967295:=I;go_in;go_wp2_with fail;refine(A _).mono ?_;rintro e w' ⟨rfl,rfl⟩;exact qF
 .rw[At he]at hp
  subst hp;have J:((e:Int)==0)=M:=qJ;have aa:((e:Int) !=0)=u:=yE;go_in;go_wp2_with fail;refine vE (A _) ?_;exact qF
def KH(h:qG l=(n,k,0)):k<=l.length/\n<=4294967295:=by
 unfold qG at h;split at h
 .rename_i h0
  split at h;.cases h
  .rename_i A
   have:=rD (l:=l) (N:=n) (aq:=k) (by rw[h]);rw[h]at A;exact⟨I,by simpa using A⟩
 .rename_i h0
  injection h with _ h
  injection h with _ h
  exact absurd h h0
def vI(r:RS)(n:Int):Nat:=oM (r.take n).2.data.toList
def take_size(r:RS)(n:Nat):(r.take n).2.size<=n:=by
 unfold RS.take;split
 .split
  .exact jB _
  .split
   .exact jB _
   .simp[iV];omega
 .exact jB _
def LY(r:RS)(n:Nat)(h:n<=8):(r.take n).2.size=0\/(1<=(r.take n).2.size/\(r.take n).2.size<=8):=by
 have:=take_size r n;omega
def H6(h:p:=by
 exact jy h1 (jk (kR mX h2) mX)):p:=h
def Om(b ae:Nat)(r:RS)(x:Int)(n:Nat)(w:K)(af:r.Ok)(hb:wL w b r)(c0:w.cell? (Z ae 0 U)=O (mG (O (Z b 0 U))))(aj:x=n)(hn:n<=4):
  iW iN 223 #[V X x,mG (O (Z ae 0 U))] w (zW b w (r.take x).1 (V X (vI r x:Nat))):=by
 subst aj;have ak:=Y (pX b r n w af hb);have hlt:vI r n<4294967296:=by
  have h1:=qD (r.take n).2.data.toList;have h2:(r.take n).2.data.toList.length<=4:=by
   rw[jR];have:=take_size r n;show(r.take n).2.size<=4;omega
  exact H6
 have ag:=LY r n I;have A:=λw h1 E=>uh (r.take n).2 w h1 E
 have C:=λw h=>xu (r.take n).2 w h
 have J:vI r n=oM (r.take n).2.data.toList:=rfl;generalize vI r n=ab at*;generalize (r.take n).2=T at*;generalize (r.take n).1=r' at*;have N:∀w,iW iN 93 #[H T] w λe w'=>(∃er:Int,e=mK (mJ #[V mP (ab:Nat),V X er]))/\w=w':=λw=>by
  rcases ag with h0|⟨h1,E⟩
  .have:ab=0:=by rw[J,cV (show T.data.toList.length=0 by simpa using h0)];rfl
   subst this;exact(C w h0).mono λe w' ⟨h,aa⟩=>⟨⟨_,h⟩,aa⟩
  .rw[J]
   exact(A w h1 E).mono λe w' ⟨h,aa⟩=>⟨⟨_,h⟩,aa⟩
 have N:=Y N;clear ag A C J af;unfold zW at*;go_in;go_wp2_with fail;refine vF ak λw2 au ah=> ?_
 have ai:=Y (iU au ah);go_wp2_with fail;refine(N _).mono ?_;rintro e w3 ⟨⟨er,rfl⟩,rfl⟩;go_wp2;go_returns;exact⟨rfl,ai.1,ai.2⟩
abbrev xw:jl:=5
abbrev Yr:jl:=86
def own_ne{v:iQ}{cs:Array iQ}(h:nS w B xw v l)(hb:mY w b cs t)(ht:t≠xw):v.ownBlock≠O b:=by
 intro e;rcases h.2 with⟨rfl,_⟩|⟨g,cap,C,rfl,hg,A,_⟩
 .simp[jK]at e
 .simp only[jK,lS]at e
  subst e;unfold mY at hb;rw[A]at hb;simp at hb;exact ht hb.2.symm
def rO(k v:Nat)(r:RS):RS×Nat×Nat:=
 if k=0 then if 60<=v then((r.take ((v:Int) - 59)).1,vI r ((v:Int) - 59)+1,0)else(r,v+1,0)
 else if k=1 then((r.take 1).1,4+v % 8,v/8*256+vI r 1)
 else if k=2 then((r.take 2).1,v+1,vI r 2)
 else((r.take 4).1,v+1,vI r 4)
def vX:Nat->Nat->Nat->List AC->List AC
 |0,_,_,l=>l
 |f+1,n,A,l=>if n=0 then l else vX f (n - min n A) A (l++(l.drop (l.length - A)).take (min n A))
def uT(k:Nat)(h:RS×Nat×Nat)(l:List AC)(size:Nat):RS×List AC:=
 if h.1.f≠0 then(h.1,l)
 else if(k≠0/\(h.2.2=0\/l.length<h.2.2))\/size - l.length<h.2.1 then(h.1.fail 3,l)
 else if k=0 then((h.1.take (h.2.1:Nat)).1,l++(h.1.take (h.2.1:Nat)).2.data.toList)
 else(h.1,vX h.2.1 h.2.1 h.2.2 l)
def p8(r:RS)(l:List AC)(size:Nat):RS×List AC:=uT (r.byte.2.toNat % 4) (rO (r.byte.2.toNat % 4) (r.byte.2.toNat/4) r.byte.1) l size
structure LZ(B b:Nat)(w0:K)(r:RS)(v:iQ)(l:List AC)(w:K):Prop where
 own:nS w B xw v l
 rd:wL w b r
 ok:r.Ok
 hB:B<=b
 pV:iR B w0 w
abbrev CRT:jl:=220
def a5x:CRT≠xw:=mX
section
variable {B b:Nat}{w0 w w':K}{r r':RS}{v:iQ}{l:List AC}
def LZ.lt(h:LZ B b w0 r v l w):b<w.heap.size:=mY.lt h.rd
def LZ.below(h:LZ B b w0 r v l w)(hb:iR w.heap.size w w'):LZ B b w0 r v l w':=
 ⟨h.own.below hb,a7 hb h.rd h.lt,h.ok,h.hB,h.pV.trans (hb.mono (jk h.hB (cG h.lt)))⟩
def LZ.ne(h:LZ B b w0 r v l w):v.ownBlock≠O b:=own_ne h.own h.rd a5x
def LZ.read(h:LZ B b w0 r v l w)(C:oO b w w')(aa:wL w' b r')(hok:r'.Ok):LZ B b w0 r' v l w':=by
 refine⟨?_,aa,hok,h.hB,C.below h.pV h.hB (jk h.hB (cG h.lt))⟩;have⟨ae,A⟩:=h.own;refine⟨ae,?_⟩;rcases A with A|⟨g,cap,E,J,hg,N,r⟩
 .exact .inl A
 .refine .inr ⟨g,cap,E,J,hg,?_,r⟩
  rw[C.block g (jE.1 N).1 (by
   have:=h.ne;rw[J]at this;simpa [jK,eq_comm]using this)]
  exact N
def LZ.grow{m:List AC}{v':iQ}(h:LZ B b w0 r v l w)(ho:nS w' B xw v' (l++m))(hg:w.grownBy w' v.ownBlock):LZ B b w0 r v' (l++m) w':=by
 refine⟨ho,?_,h.ok,h.hB,h.pV.grown hg (jk h.hB (cG h.lt)) λk hk=>(h.own.lt k hk).1⟩;unfold wL mY;rw[hg.block b h.lt (λe=>h.ne e.symm)];exact h.rd
end
def EE(T:An):T.size=T.data.toList.length:=ny
def a2w{aw cp:Nat}{J:Option j4}(af:l.length=aw)(h:nS w B xw (G J aw cp) l):aw<=cp/\cp<=jd:=by
 rcases h.2 with⟨A,h0⟩|⟨g,cap,ae,A,hg,ag,N,aa,_⟩
 .injection A with _ C E
  subst C E;exact⟨iP _,jB _⟩
 .injection A with _ C E
  subst C E;exact⟨I,aa⟩
def Cc:(Tryz.prog.info? xw).map (λi=>(i.zero,i.size,i.bytes))=O (O (V .u8 0),1,1):=mZ
def Oo(r:RS)(n:Nat)(h:n<=4):vI r n<256^n:=by
 have A:=qD (r.take n).2.data.toList;have C:(r.take n).2.data.toList.length<=n:=by
  rw[jR];have:=take_size r n;show(r.take n).2.size<=n;omega
 exact jy A (kR mX C)
def a2x(r:RS)(n:Nat)(h:n<=4):vI r n<4294967296:=jy (Oo r n h) (jk (kR mX h) mX)
def a5y(r:RS):vI r 1<256:=Oo r 1 mX
def YL:∀q:Fin 256,bits BinOp.and IntKind.u8 (q.val:Int) 3=((q.val % 4:Nat):Int):=xh
def a9V(q:Nat)(h:q<=255):bits BinOp.and IntKind.u8 (q:Int) 3=((q % 4:Nat):Int):=YL ⟨q,I⟩
def YM(r:RS):∃q:Nat,r.byte.2=(q:Int)/\q<=255:=by
 unfold RS.byte;split
 .split
  .rename_i h
   exact⟨r.t[r.p].toNat,rfl,by have:=r.t[r.p].toNat_lt;omega⟩
  .exact⟨0,rfl,I⟩
 .exact⟨0,rfl,I⟩
def L6(h:p:=by
 go_wp2_with fail;refine CF.mono ?_;rintro e w4 ⟨rfl,rfl⟩;go_wp2_with fail;refine vF CX λw5 hu hr=> ?_
 have HF:=Y (H3.read hu hr a5z);clear hu hr;go_wp2;go_returns;exact⟨_,rfl,by rw[HR.out];exact HF.out⟩):p:=h
def YN(h:p:=by
 clear CL HLT;go_wp2_with fail;refine vF CLL λw3 hu hr=> ?_
 have H3:=Y (H2.read hu hr Oq);have HB3:=Y (hu.blk Wn hbg);clear hu hr;go_wp2_with fail;go_meet;exact⟨v+1,ac,r2,by congr 1,rfl,I,I,HH,H3,HB3⟩):p:=h
def L8(B b:Nat)(w0:K)(r:RS)(v:iQ)(l:List AC)(size:Nat)(w:K)(h:LZ B b w0 r v l w)(hl:l.length<=size)(hs:size<=65536):
  iW iN 190 #[mG (O (Z b 0 U)),v,V X size] w λe w'=>∃v',e=mK v'/\LZ B b w0 (p8 r l size).1 v' (p8 r l size).2 w':=by
 have an:=Y h;obtain⟨g,hg⟩:=o7 w;have⟨L,hL⟩:=nE l.length;have ah:=Y hL;obtain⟨oa,cap,rfl⟩:∃oa cap,v=G oa L cap:=by
  rcases h.own.2 with⟨rfl,h0⟩|⟨g,cap,bM,rfl,_⟩
  .exact⟨U,0,by rw[<-hL,h0]⟩
  .exact⟨_,_,by rw[<-hL]⟩
 have aF:=mY.new w #[mG (O (Z b 0 U))] 193;have aX:=(iT w.heap.size w).alloc (iP _) (mM #[mG (O (Z b 0 U))] 193);have aG:=Y (h.below aX);have bC:=h.lt;rw[hg]at aF bC;rw[hL]at hl;have aH:=Y aF;have⟨aE,bD⟩:=nE (p8 r l size);have HR:=Y bD;rw[bD];clear h hL aF aX bD;go_in;go_upto_region 1 with fail;generalize w.alloc _=w1 at*;have c0:=aH.c0;have aS:=Y (Oc b r w1 aG.ok aG.rd);unfold zW at aS;have⟨r1,aD⟩:=nE r.byte.1;have⟨q,bE,bN⟩:∃q:Nat,r.byte.2=(q:Int)/\q<=255:=YM r;have aU:R (aE=uT (q % 4) (rO (q % 4) (q/4) r1) l size):=Y (by rw[<-HR.out];unfold p8;rw[aD,bE];rfl);have ae:R r1.Ok:=Y (aD▸aG.ok.byte);rw[aD,bE]at aS;clear aD bE HR;go_wp2_with fail;refine vF aS λw2 aI aY=> ?_
 have hbg:g≠b:=I;have Wn:=Y (aI.blk aH hbg);have H2:=Y (aG.read aI aY ae);clear aI aY c0 aS aG aH an;have c0:=Wn.c0;go_upto_block 0 with fail;have⟨k,hk⟩:=nE (q % 4);have⟨v,bO⟩:=nE (q/4);have e1:bits BinOp.and IntKind.u8 (q:Int) 3=(k:Int):=by rw[a9V q bN,hk]
 have e2:(q:Int)/4=(v:Int):=I;simp only[e1,e2];have bF:v<=63:=I;have bP:k<4:=I;rw[hk,bO]at aU;clear e1 e2 hk bO;have dL:=Y (iU bF bP);go_cut [11,12] (λaJ bv bQ=>∃(n A:Nat) (r2:RS),aJ=V X (n:Int)/\bv=V X (A:Int)/\n<=4294967296/\A<=4294967296/\R (rO k v r1=(r2,n,A))/\R (LZ B b w0 r2 (G oa L cap) l bQ)/\R (mY bQ g #[mG (O (Z b 0 U))] 193));case first=>
  have CL:=Y (λ(x:Int) (n:Nat) hx hn=>Om b g r1 x n w2 ae H2.rd c0 hx hn);have HLT:=Y (λ(n:Nat) hn=>a2x r1 n hn);unfold zW at CL;clear aU ah;obtain rfl|rfl|rfl|rfl:k=0\/k=1\/k=2\/k=3:=I
  .by_cases aZ:60<=v
   .have ex:(v:Int) - 59=((v - 59:Nat):Int):=I
    have CLL:=Y (CL ((v:Int) - 59) (v - 59) ex I);have hlt:=HLT.out (v - 59) I;rw[<-ex]at hlt;have HH:R (rO 0 v r1=((r1.take ((v:Int) - 59)).1,vI r1 ((v:Int) - 59)+1,0)):=Y (by unfold rO;rw[Ax rfl,Ax aZ]);have Oq:=Y (ae.take ((v:Int) - 59));generalize vI r1 ((v:Int) - 59)=ac at*;generalize (r1.take ((v:Int) - 59)).1=r2 at*;clear ex CL HLT;go_wp2_with fail;refine vF CLL λw3 hu hr=> ?_
    have H3:=Y (H2.read hu hr Oq);have HB3:=Y (hu.blk Wn hbg);clear hu hr;go_wp2_with fail;go_meet;exact⟨ac+1,0,r2,by congr 1,rfl,I,I,HH,H3,HB3⟩
   .have HH:R (rO 0 v r1=(r1,v+1,0)):=Y (by unfold rO;rw[Ax rfl,At aZ])
    clear CL HLT;go_wp2_with fail;go_meet;exact⟨v+1,0,r1,by congr 1,rfl,I,I,HH,H2,Wn⟩
  .have CLL:=Y (CL 1 1 rfl mX)
   have hlt:=HLT.out 1 mX;have HH:R (rO 1 v r1=((r1.take 1).1,4+v % 8,v/8*256+vI r1 1)):=Y rfl;have Oq:=Y (ae.take 1);have hlt:vI r1 1<4294967296:=hlt;have cZ:=a5y r1;generalize vI r1 1=ac at*;generalize (r1.take 1).1=r2 at*;clear CL HLT;go_wp2_with fail;refine vF CLL λw3 hu hr=> ?_
   have H3:=Y (H2.read hu hr Oq);have HB3:=Y (hu.blk Wn hbg);clear hu hr;go_wp2_with fail;go_meet;exact⟨4+v % 8,v/8*256+ac,r2,by congr 1,by congr 1,I,I,HH,H3,HB3⟩
  .have CLL:=Y (CL 2 2 rfl mX)
   have hlt:vI r1 2<4294967296:=HLT.out 2 mX;have HH:R (rO 2 v r1=((r1.take 2).1,v+1,vI r1 2)):=Y rfl;have Oq:=Y (ae.take 2);generalize vI r1 2=ac at*;generalize (r1.take 2).1=r2 at*;exact YN
  .have CLL:=Y (CL 4 4 rfl mX)
   have hlt:vI r1 4<4294967296:=HLT.out 4 mX;have HH:R (rO 3 v r1=((r1.take 4).1,v+1,vI r1 4)):=Y rfl;have Oq:=Y (ae.take 4);generalize vI r1 4=ac at*;generalize (r1.take 4).1=r2 at*;exact YN
 case rest=>
  obtain⟨n,A,r2,rfl,rfl,hn,cK,HH,H3,HB3⟩:=hcut;have ag:R (aE=uT k (r2,n,A) l size):=Y (by rw[aU.out,HH.out]);have CF:=Y (pU b r2 wc H3.rd);have df:=HB3.c0;clear aU HH H2 Wn ae c0;by_cases ak:r2.f=0;case neg=>
   have HR:R (aE=(r2,l)):=Y (by rw[ag.out];unfold uT;rw[Ax ak]);have dD:(r2.f !=0)=u:=by simp[ak]
   clear ak ag;go_wp2_with fail;refine CF.mono ?_;rintro e w4 ⟨rfl,rfl⟩;go_wp2;go_returns;exact⟨_,rfl,by rw[HR.out];exact H3.out⟩
  rw[ak]at CF;by_cases E:(k≠0/\(A=0\/L<A))\/size - L<n
  .have HR:R (aE=(r2.fail 3,l)):=Y (by rw[ag.out];unfold uT;rw[At (by simpa using ak),Ax (by rw[ah.out];exact E)])
   have CX:=Y (uI b r2 3 wc H3.rd);have a5z:=Y (H3.ok.fail 3);generalize r2.fail 3=r3 at*;have dE:=Y E;have bR:(k=0/\((k:Int) !=0)=M/\size - L<n)\/(((k:Int) !=0)=u/\A=0)\/(((k:Int) !=0)=u/\((A:Int)==0)=M/\L<A)\/(((k:Int) !=0)=u/\((A:Int)==0)=M/\A<=L/\size - L<n):=by
    by_cases aa:k=0;.exact .inl ⟨aa,by simp[aa],E.elim (λh=>absurd aa h.1) id⟩
    .have e1:((k:Int) !=0)=u:=by simp[aa]
     by_cases hb0:A=0;.exact .inr (.inl ⟨e1,hb0⟩)
     .have e2:((A:Int)==0)=M:=by simp[hb0]
      by_cases bg:L<A;.exact .inr (.inr (.inl ⟨e1,e2,bg⟩))
      .exact .inr (.inr (.inr ⟨e1,e2,I,E.elim (λh=>by omega) id⟩))
   clear E ag ak ah;rcases bR with⟨rfl,e1,e3⟩|⟨e1,rfl⟩|⟨e1,e2,e3⟩|⟨e1,e2,e3,e4⟩
   .exact L6
   .exact L6
   .exact L6
   .exact L6
  .have dF:L+n<=size:=I
   by_cases aa:k=0
   .subst aa
    have HR:R (aE=((r2.take (n:Nat)).1,l++(r2.take (n:Nat)).2.data.toList)):=Y (by rw[ag.out];unfold uT;rw[At (by simpa using ak),At (by rw[ah.out];exact E),Ax rfl]);have bS:=Y (pX b r2 n wc H3.ok H3.rd);have Oq:=Y (H3.ok.take n);have dG:=take_size r2 n;unfold zW at bS;generalize (r2.take (n:Nat)).1=r3 at*;generalize (r2.take (n:Nat)).2=bG at*;have⟨bH,hi,aK,aL,aM⟩:=info_parts Cc;clear E ag ak;go_wp2_with fail;refine CF.mono ?_;rintro e w4 ⟨rfl,rfl⟩;go_wp2_with fail;refine vF bS λw5 hu hr=> ?_
    have aV:=Y (H3.read hu hr Oq);have C:=Y aV.own;have aN:B<=w5.heap.size:=jk aV.hB (cG aV.lt);clear hu hr;unfold nS at C;rw[ah.out]at C;go_wp2_with (at_builtin;refine Lib.wpList_append_own_string _ rfl _ _ 86 9 rfl B 5 bH kQ l8 hi aK aL aM _ _ _ rfl C bG rfl ?c3 ?c4 ?c5 ?_);case c3=>unfold jd;omega
    case c4=>omega
    case c5=>exact aN
    intro v' dh af av _;have HF:=Y (aV.grow (m:=bG.data.toList) (v':=v') (by unfold nS;rw[jo,ah.out,pF,<-EE bG];exact af) av);clear af av;go_wp2;go_returns;exact⟨_,rfl,by rw[HR.out];exact HF.out⟩
   .have e1:((k:Int) !=0)=u:=by simp[aa]
    have hb0:1<=A/\A<=L:=I;obtain⟨bg,bT⟩:=hb0;have e2:((A:Int)==0)=M:=nk;have e3:((k:Int)==0)=M:=by simp[aa]
    have e4:As (L<A)=M:=bh I;have e5:As ((size:Int) -(L:Int)<(n:Int))=M:=bh I;have HR:R (aE=(r2,vX n n A l)):=Y (by rw[ag.out];unfold uT;rw[At (by simpa using ak),At (by rw[ah.out];exact E),At aa]);have⟨aO,aA⟩:=nE (vX n n A l);rw[aA]at HR;have bU:=Y aA;have⟨bI,bV⟩:∃bI,oa=O (Z bI 0 U):=by
     rcases H3.own.2 with⟨bq,h0⟩|⟨g,cap,bM,bq,_⟩
     .have:=ah.out;omega
     .injection bq with aW _ _;exact⟨g,aW⟩
    subst bV;have⟨bH,hi,aK,aL,aM⟩:=info_parts Cc;have bW:L+n<=65536:=I;clear E ag ak aa aA;go_wp2_with fail;refine vE CF ?_;go_wp2_with fail;clear df CF;go_loopw [1,11] (λlv aJ dw=>∃(aj cp J F:Nat) (N:List AC),lv=G (O (Z aj 0 U)) N.length cp/\aJ=V X (J:Int)/\N.length+J<=65536/\A<=N.length/\R (J<=F/\vX F J A N=aO)/\R (LZ B b w0 r2 (G (O (Z aj 0 U)) N.length cp) N dw)) (λ_ aJ _=>(jF aJ).toNat);case atStart=>exact⟨bI,cap,n,n,l,by rw[ah.out],rfl,by rw[ah.out];omega,by rw[ah.out];exact bT,Y ⟨iP _,bU.out⟩,by rw[ah.out];exact H3⟩
    case round=>
     obtain⟨aj,cp,J,F,N,rfl,rfl,bX,bY,aP,ax⟩:=hrel;clear H3;have⟨aw,bJ⟩:=nE N.length;have au:=Y bJ;rw[bJ]at bX bY ax|-;clear bJ;by_cases bu:J=0
     .subst bu
      have dx:R (N=aO):=Y (by have:=aP.2;cases F<;>simpa [vX]using this);go_wp2;go_returns;refine⟨_,rfl,?_⟩;rw[HR.out,<-dx.out];exact ax
     .have bz:aw<=cp/\cp<=jd:=a2w au ax.own
      have dz:0<J:=I;unfold jd at bz;obtain⟨dA,dB⟩:=bz;clear bu;go_upto_region 23 with fail;go_upto_region 25 with fail;have⟨p,hp⟩:=nE (min J A);have aQ:(if A<J then(A:Int)else(J:Int))=(p:Int):=by split<;>omega
      simp only[aQ,cF];have bA:1<=p/\p<=A/\p<=J:=I;obtain⟨bA,dH,dI⟩:=bA;have⟨part,ai⟩:=nE ((N.drop (aw - A)).take p);have bB:part.length=p:=by rw[<-ai,jQ,jP,au.out];omega
      obtain⟨aB,rfl⟩:∃aB,F=aB+1:=⟨F - 1,by have:=aP.1;omega⟩;have bZ:R (J - p<=aB/\vX aB (J - p) A (N++part)=aO):=Y ⟨by have:=aP.1;omega,by
       have aW:=aP.2;rw[show vX (aB+1) J A N=if J=0 then N else vX aB (J - min J A) A (N++(N.drop (N.length - A)).take (min J A))from rfl,At I,hp,au.out,ai]at aW;exact aW⟩
      have ay:R (∀j ar,(nI part)[j]? =O ar->wr.cell? (((Z aj (aw - A) U):j4).add j)=O ar):=Y λj ar cz=>by
       have e1:((Z aj (aw - A) U):j4).add j=(Z aj (aw - A+j) U):=J3;have e2:((Z aj 0 U):j4).add (aw - A+j)=(Z aj (aw - A+j) U):=J3;rw[e1,<-e2];have dJ:j<part.length:=by have:=(jU.1 cz).1;simpa using this
       have C:=ax.own;refine World.ownsRow.cells C (g:=aj) rfl (aw - A+j) ar ?_;rw[<-cz];unfold nI;rw[eo,eo];congr 1;rw[<-ai,cj I,dj]
      have C:=Y ax.own;unfold nS at C;rw[au.out]at C;have aN:B<=wr.heap.size:=jk ax.hB (cG ax.lt);have dK:100000<=jd:=xh;have az:=Y bB;clear hp aQ ai bB aP;go_upto_region 26 with(at_builtin;go_loud (refine wpList_append_lies wr rfl _ _ Yr rfl B xw bH (.int .u8 0) 1 1 kQ hi aK aL aM rfl mX (.slice (O (Z aj 0 U)) aw cp) aw (nI N) rfl C (Z aj (aw - A) U) p _ (nI part) rfl (by rw[rC,az.out];omega) ay (vH _) I I I aN _ rfl ?_);intro g2 aR dh af av bK bL)
      have HF:=Y (ax.grow (m:=part) (v':=G (O (Z g2 0 U)) (aw+p) aR) (by unfold nS;rw[jo,au.out,az.out,pF];exact af) av);clear af av bK bL C ay;go_wp2;go_roundw;case rel=>exact⟨g2,aR,J - p,aB,N++part,by rw[jo,au.out,az.out],by congr 1;omega,by rw[jo,au.out,az.out];omega,by rw[jo,au.out];omega,bZ,by rw[jo,au.out,az.out];exact HF⟩
      case measure=>simp[jF];omega
def Ub(mo us ta tq:Int):Array iQ:=#[V X mo,V X us,V X ta,V X tq]
def Wo(n:Int)(w:K):
  iW iN 32 #[V X n] w λe w'=>e=mK (mG (O (Z w.heap.size 0 U)))/\w'=w.alloc (mM (Ub (if n<0 then 0 else n) 0 0 0) 119):=by
 by_cases h:n<0
 all_goals
  go_in;go_wp2;go_returns;exact⟨rfl,rfl⟩
def Bb(mo us ta n:Int):Int:=if mo - us<n\/9223372036854775807 - ta<n then 5 else 0
def L9(h:p:=by
 go_in;go_wp2;go_quiet (fail);go_wp2;go_returns;exact⟨rfl,_,rfl⟩):p:=h
def take1(b p q:Nat)(mo us ta tq n:Int)(w:K)(h0:0<=us)(N:us<=mo)(aa:mo<=9223372036854775807)(ae:0<=ta)(af:ta<=9223372036854775807)(hb:mY w b (Ub mo us ta tq) 119)(hp:w.cell? (Z p 0 U)=O (V X n))(ag:w.cell? (Z q 0 U)=O (mG (O (Z b 0 U)))):
  iW iN 60 #[mG (O (Z p 0 U)),mG (O (Z q 0 U))] w λe w'=>e=mK (V X (Bb mo us ta n))/\∃k,w'=w.drewN k:=by
 have c0:=hb.cell 0;have c1:=hb.cell 1;have c2:=hb.cell 2;simp[Ub]at c0 c1 c2;by_cases A:mo - us<n
 .have e:Bb mo us ta n=5:=Ax (.inl A)
  rw[e];exact L9
 .have E:As (mo - us<n)=M:=by simpa using A
  by_cases C:9223372036854775807 - ta<n
  .have e:Bb mo us ta n=5:=Ax (.inr C)
   rw[e];clear e A;exact L9
  .have e:Bb mo us ta n=0:=At I
   rw[e];have J:As (9223372036854775807 - ta<n)=M:=by simpa using C
   clear e A C;exact L9
def take2(b p q:Nat)(mo us ta tq n:Int)(w:K)(h0:0<=us+n)(E:us+n<=9223372036854775807)(J:0<=ta+n)(N:ta+n<=9223372036854775807)(A:q≠b)(C:p≠b)(hb:mY w b (Ub mo us ta tq) 119)(hp:w.cell? (Z p 0 U)=O (V X n))(aa:w.cell? (Z q 0 U)=O (mG (O (Z b 0 U)))):
  iW iN 61 #[mG (O (Z q 0 U)),mG (O (Z p 0 U))] w λe w'=>e=mK (mJ #[])/\oO b w w'/\mY w' b (Ub mo (us+n) (ta+n) tq) 119:=by
 have c1:=hb.cell 1;have c2:=hb.cell 2;have f1:=hb.free 1;have f2:=hb.free 2;simp[Ub]at c1 c2;go_in;go_wp2;go_region;go_wp2;go_region;go_wp2;go_returns;exact⟨rfl,(((b9 b w).set 1 _).set 2 _).drew.drew,(hb.set 1 _).set 2 _⟩
def a4M(b:Nat)(w:K)(r mo us ta tq:Int):kV->K->Prop:=λe w'=>
 e=mK (V X r)/\oO b w w'/\mY w' b (Ub mo us ta tq) 119
def Ma(a b:Int):Int:=if a<b then b else a
def Mc(b:Nat)(mo us ta tq n r:Int)(cf A:Array iQ)(w:K)(hn:0<=n)(N:((r:Int) !=0)=u)(hb:mY w b (Ub mo us ta tq) 119)(C:iW iN 60 cf w λe w'=>e=mK (V X r)/\∃k,w'=w.drewN k):
  iW iN 59 #[mG (O (Z b 0 U)),V X n,.func (.func 60) #[] cf,.func (.func 61) #[] A] w (a4M b w r mo us ta tq):=by
 have E:=Y C;have J:As (n<0)=M:=by simpa using hn
 go_in;go_wp2_with fail;refine E.mono ?_;rintro e w1 ⟨rfl,k,rfl⟩;go_wp2;go_returns;exact⟨rfl,⟨rfl,rfl,rfl,iP _,λ_ _ _=>rfl⟩,hb⟩
def Md(b:Nat)(mo us ta tq A E n:Int)(cf J:Array iQ)(w:K)(hn:0<=n)(hb:mY w b (Ub mo us ta tq) 119)(N:iW iN 60 cf w λe w'=>e=mK (V X 0)/\∃k,w'=w.drewN k)(aa:∀k,iW iN 61 J (w.drewN k) λe w'=>e=mK (mJ #[])/\oO b (w.drewN k) w'/\mY w' b (Ub mo A E tq) 119):
  iW iN 59 #[mG (O (Z b 0 U)),V X n,.func (.func 60) #[] cf,.func (.func 61) #[] J] w (a4M b w 0 mo A E (Ma tq A)):=by
 have ae:=Y N;have af:=Y aa;have ah:As (n<0)=M:=by simpa using hn
 have ai:(if tq<A then A else tq)=Ma tq A:=rfl;generalize Ma tq A=m at*;go_in;go_wp2_with fail;refine ae.mono ?_;rintro e w1 ⟨rfl,k,rfl⟩;go_wp2_with fail;refine vF (af k) λw2 ag C=> ?_
 have c1:=C.cell 1;have c3:=C.cell 3;have f3:=C.free 3;simp[Ub]at c1 c3;go_wp2_with fail;go_region;go_wp2;go_returns;refine⟨rfl,?_,?_⟩
 .refine oO.trans (v:=w.drewN k) ⟨rfl,rfl,rfl,iP _,λ_ _ _=>rfl⟩ ?_
  exact(ag.set 3 _).drew
 .exact C.set 3 _
structure MS where
 mo:Int
 us:Int
 ta:Int
 tq:Int
structure MS.Ok(m:MS):Prop where
 a:0<=m.us
 b:m.us<=m.tq
 c:m.tq<=m.mo
 d:m.mo<=9223372036854775807
 e:0<=m.ta
 f:m.ta<=9223372036854775807
def MS.cs(m:MS):Array iQ:=Ub m.mo m.us m.ta m.tq
def MS.new(n:Int):MS:=⟨if n<0 then 0 else n,0,0,0⟩
def MS.take(m:MS)(n:Int):MS×Int:=
 if n<0 then(m,1)else if m.mo - m.us<n\/9223372036854775807 - m.ta<n then(m,5)else(⟨m.mo,m.us+n,m.ta+n,Ma m.tq (m.us+n)⟩,0)
def MS.Ok.new(n:Int)(h:n<=9223372036854775807):(MS.new n).Ok:=by
 unfold MS.new;constructor<;>(simp only[];try split)<;>omega
def MS.Ok.take{m:MS}(h:m.Ok)(n:Int):(m.take n).1.Ok:=by
 obtain⟨a,b,c,d,e,f⟩:=h;unfold MS.take Ma;split;.exact⟨a,b,c,d,e,f⟩
 .split
  .exact⟨a,b,c,d,e,f⟩
  .constructor<;>(simp only[];try split)<;>omega
def IsM(w:K)(b:Nat)(m:MS):Prop:=mY w b m.cs 119
def a4N(b:Nat)(w:K)(r:MS×Int):kV->K->Prop:=λe w'=>e=mK (V X r.2)/\oO b w w'/\IsM w' b r.1
def QY(n:Int)(w:K):
  iW iN 32 #[V X n] w λe w'=>e=mK (mG (O (Z w.heap.size 0 U)))/\iR w.heap.size w w'/\w.heap.size<w'.heap.size/\IsM w' w.heap.size (MS.new n):=by
 refine(Wo n w).mono λe w' ⟨he,A⟩=>⟨he,?_⟩
 subst A;exact⟨(iT _ _).alloc (iP _) _,ny,mY.new _ _ _⟩
def Uc(h:p:=by
 clear hb2 hp hq e e2 d1 H1;have H':=Y an;clear an;go_in;go_wp2_with fail;refine vF H' λw2 hu2 hb3=> ?_
 go_wp2;go_returns;exact⟨rfl,hu.trans hu2,hb3⟩):p:=h
def Ia(b:Nat)(m:MS)(n:Int)(w:K)(E:m.Ok)(hb:IsM w b m):
  iW iN 33 #[mG (O (Z b 0 U)),V X n] w (a4N b w (m.take n)):=by
 obtain⟨mo,us,ta,tq⟩:=m;obtain⟨a,b',c,d,e,f⟩:=E;simp only at a b' c d e f;have A:=hb;have hlt:=A.lt;have hb2:mY ((w.alloc (mM #[mG (O (Z b 0 U))] 89)).alloc (mM #[V X n] 3)) b (Ub mo us ta tq) 119:=(A.alloc _).alloc _;have hp:((w.alloc (mM #[mG (O (Z b 0 U))] 89)).alloc (mM #[V X n] 3)).cell? (Z (w.heap.size+1) 0 U)=O (V X n):=by simp[go_sem]
 have hq:((w.alloc (mM #[mG (O (Z b 0 U))] 89)).alloc (mM #[V X n] 3)).cell? (Z w.heap.size 0 U)=O (mG (O (Z b 0 U))):=by simp[go_sem]
 have hu:oO b w ((w.alloc (mM #[mG (O (Z b 0 U))] 89)).alloc (mM #[V X n] 3)):=((b9 b w).alloc _).alloc _;by_cases hn:n<0
 .have e:MS.take ⟨mo,us,ta,tq⟩ n=(⟨mo,us,ta,tq⟩,1):=Ax hn
  rw[e];clear e hb2 hp hq;go_in;go_wp2_with (go_at_call 59;go_in);go_returns;exact⟨rfl,hu,(A.alloc _).alloc _⟩
 .have C:0<=n:=I
  have H1:=take1 b (w.heap.size+1) w.heap.size mo us ta tq n _ I I I I I hb2 hp hq;by_cases d1:mo - us<n\/9223372036854775807 - ta<n
  .have e:MS.take ⟨mo,us,ta,tq⟩ n=(⟨mo,us,ta,tq⟩,5):=by unfold MS.take;rw[At hn,Ax d1]
   have e2:Bb mo us ta n=5:=Ax d1;rw[e];rw[e2]at H1;have an:=Mc b mo us ta tq n 5 _ #[mG (O (Z w.heap.size 0 U)),mG (O (Z (w.heap.size+1) 0 U))] _ C mX hb2 H1;exact Uc
  .have e:MS.take ⟨mo,us,ta,tq⟩ n=(⟨mo,us+n,ta+n,Ma tq (us+n)⟩,0):=by unfold MS.take;rw[At hn,At d1]
   have e2:Bb mo us ta n=0:=At d1;rw[e];rw[e2]at H1;have an:=Md b mo us ta tq (us+n) (ta+n) n _ _ _ C hb2 H1 λk=>take2 b (w.heap.size+1) w.heap.size mo us ta tq n _ I I I I I I hb2 hp hq
   exact Uc
def YO(b:Nat)(m:MS)(w:K)(hb:IsM w b m):
  iW iN 35 #[mG (O (Z b 0 U))] w λe w'=>e=mK (V X m.ta)/\w=w':=by
 have c:=b5 hb 2;simp[MS.cs,Ub]at c;go_in;go_wp2;go_returns;exact⟨rfl,rfl⟩
def RS.left(r:RS):Nat:=if r.f=0 then r.t.size - r.p else 0
def RS.Ce(r:RS)(n:Int)(h:r.Ok):(r.take n).1.t=r.t/\r.p<=(r.take n).1.p/\(r.f≠0->(r.take n).1.f≠0):=by
 unfold RS.take;split
 .split
  .exact⟨rfl,iP _,λh=>absurd ‹r.f=0› h⟩
  .split
   .exact⟨rfl,iP _,λh=>absurd ‹r.f=0› h⟩
   .exact⟨rfl,co _ _,λh=>absurd ‹r.f=0› h⟩
 .exact⟨rfl,iP _,id⟩
def RS.Cf(r:RS)(x:Int)(A:x≠0):(r.fail x).t=r.t/\r.p<=(r.fail x).p/\(r.fail x).f≠0:=by
 unfold RS.fail;split;.exact⟨rfl,iP _,A⟩
 .exact⟨rfl,iP _,‹_›⟩
def RS.QZ(r:RS)(h:r.Ok)(h0:r.f=0)(A:r.p<r.t.size):r.byte.1.t=r.t/\r.byte.1.p=r.p+1/\r.byte.1.f=0:=by
 unfold RS.byte;rw[Ax h0,dif_pos A];exact⟨rfl,rfl,rfl⟩
def GJ(h:p:=by
 exact⟨(r.Ce _ h).1,(r.Ce _ h).2.1,h.take _⟩):p:=h
def Ot(k v:Nat)(r:RS)(h:r.Ok):(rO k v r).1.t=r.t/\r.p<=(rO k v r).1.p/\(rO k v r).1.Ok:=by
 unfold rO;split
 .split
  .exact GJ
  .exact⟨rfl,iP _,h⟩
 .split
  .exact GJ
  .split
   .exact GJ
   .exact GJ
def CZ:∀(f n A:Nat)(l:List AC),n<=f->1<=A->A<=l.length->(vX f n A l).length=l.length+n
 |0,n,A,l,h,_,_=>by simp only[vX];omega
 |f+1,n,A,l,h,hb,hl=>by
  simp only[vX];split;.omega
  .have C:((l.drop (l.length - A)).take (min n A)).length=min n A:=by rw[jQ,jP];omega
   rw[CZ f _ A _ I hb (by rw[jo];omega),jo,C];omega
def Ou{h:RS×Nat×Nat}{size:Nat}(hok:h.1.Ok)(hl:l.length<=size):
  (uT k h l size).1.t=h.1.t/\h.1.p<=(uT k h l size).1.p/\(uT k h l size).1.Ok/\(uT k h l size).2.length<=size:=by
 unfold uT;split;.exact⟨rfl,iP _,hok,hl⟩
 .split
  .have:=h.1.Cf 3 mX
   exact⟨this.1,this.2.1,hok.fail _,hl⟩
  .rename_i A C
   split
   .have:=h.1.Ce (h.2.1:Nat) hok
    refine⟨this.1,this.2.1,hok.take _,?_⟩;have E:=take_size h.1 h.2.1;rw[jo,<-EE];omega
   .rename_i hk
    refine⟨rfl,iP _,hok,?_⟩;rw[CZ _ _ _ _ (iP _) I I];omega
def xS{size:Nat}(hok:r.Ok)(hl:l.length<=size)(h0:r.f=0)(A:r.p<r.t.size):
  (p8 r l size).1.t=r.t/\r.p+1<=(p8 r l size).1.p/\(p8 r l size).1.Ok/\(p8 r l size).2.length<=size:=by
 unfold p8;have⟨b1,C,b3⟩:=r.QZ hok h0 A;have⟨a1,a2,a3⟩:=Ot (r.byte.2.toNat % 4) (r.byte.2.toNat/4) r.byte.1 hok.byte;have⟨c1,c2,c3,c4⟩:=Ou (k:=r.byte.2.toNat % 4) (h:=rO (r.byte.2.toNat % 4) (r.byte.2.toNat/4) r.byte.1) (l:=l) (size:=size) a3 hl;exact⟨by rw[c1,a1,b1],I,c3,c4⟩
def RS.vR(r:RS)(n:Int)(h:0<=r.f):0<=(r.take n).1.f:=by
 unfold RS.take;split
 .split
  .show(0:Int)<=1;decide
  .split
   .show(0:Int)<=2;decide
   .show(0:Int)<=0;decide
 .exact h
def RS.y9(r:RS)(A:0<=x)(h:0<=r.f):0<=(r.fail x).f:=by
 unfold RS.fail;split;.exact A
 .exact h
def RS.Ud(r:RS)(h:0<=r.f):0<=r.byte.1.f:=by
 unfold RS.byte;split
 .split
  .show(0:Int)<=0;decide
  .show(0:Int)<=2;decide
 .exact h
def YP{size:Nat}(h:0<=r.f):0<=(p8 r l size).1.f:=by
 have A:∀k v,0<=(rO k v r.byte.1).1.f:=λk v=>by
  have hb:=r.Ud h;unfold rO;split
  .split
   .exact RS.vR _ _ hb
   .exact hb
  .split
   .exact RS.vR _ _ hb
   .split
    .exact RS.vR _ _ hb
    .exact RS.vR _ _ hb
 unfold p8 uT;split;.exact A _ _
 .split
  .exact RS.y9 _ mX (A _ _)
  .split
   .exact RS.vR _ _ (A _ _)
   .exact A _ _
def Q0{size:Nat}(hok:r.Ok)(hl:l.length<=size)(h0:r.f=0)(A:r.p<r.t.size):(p8 r l size).1.left<r.left:=by
 have⟨a,b,c,d⟩:=xS hok hl h0 A;unfold RS.left;rw[Ax h0,a];split<;>omega
def uU(size:Nat):Nat->RS->List AC->RS×List AC
 |0,r,l=>(r,l)
 |f+1,r,l=>if r.f=0/\r.p<r.t.size then uU size f (p8 r l size).1 (p8 r l size).2 else(r,l)
def uV(s:An)(size:Nat):Except Nat (List AC):=
 let y:=uU size (s.size+1) (RS.of s) [];let r:=if y.2.length<size then y.1.fail 2 else y.1
 if r.f≠0 then .error r.f.toNat else .ok y.2
def KI:Option (Nat×MS)->iQ
 |none=> mG U
 |some x=> mG (O (Z x.1 0 U))
def o9(w:K):Option (Nat×MS)->Prop
 |none=>True
 |some x=>IsM w x.1 x.2/\x.2.Ok
def rZ(n:Int):Option (Nat×MS)->Option (Nat×MS)
 |none=>U
 |some x=>O (x.1,(x.2.take n).1)
def z8(n:Int):Option (Nat×MS)->Int
 |none=>0
 |some x=>(x.2.take n).2
def nY(mt:Option (Nat×MS)):Option Nat:=mt.map Prod.fst
@[simp] theorem Ib (n:Int) (mt:Option (Nat×MS)):nY (rZ n mt)=nY mt:=by cases mt<;>rfl
def C8(n:Int)(mt:Option (Nat×MS)):0<=z8 n mt:=by
 cases mt with
 |none=>exact dt _
 |some x=>
  unfold z8 MS.take;dsimp only;split;.show(0:Int)<=1;decide
  .split
   .show(0:Int)<=5;decide
   .show(0:Int)<=0;decide
def sK(s:An)(most:Int)(mt:Option (Nat×MS)):Except Nat (List AC)×Option (Nat×MS):=
 match qG s.data.toList with
 |(n,k,e)=>if e≠0 then(.error e,mt)else if most<n then(.error 5,mt)else
  if z8 n mt≠0 then(.error (z8 n mt).toNat,rZ n mt)else(uV (s.extract k s.size) n,rZ n mt)
def YQ(aE:Except Nat (List AC)×Option (Nat×MS))(mt:Option (Nat×MS))(w:K)(e:kV)(w':K):Prop:=
 w.grownBy w' (nY mt)/\o9 w' aE.2/\match aE.1 with
 | .error er=>e=mK (mJ #[H ⟨#[]⟩,V X (er:Nat)])
 | .ok l=>e=mK (mJ #[H ⟨l.toArray⟩,V X 0])
def o9.grown{mt:Option (Nat×MS)}(h:o9 w mt)(hb:iR w.heap.size w w'):o9 w' mt:=by
 cases mt with
 |none=>trivial
 |some x=>exact⟨a7 hb h.1 (mY.lt h.1),h.2⟩
def oP{row:Option Nat}(hb:iR w.heap.size w w'):w.grownBy w' row:=⟨hb.os,hb.tape,hb.output,hb.size,λi hi _=>hb.block i hi⟩
def pJ{a b c:K}{row:Option Nat}(h:a.grownBy b row)(k:b.grownBy c row):a.grownBy c row:=
 ⟨k.os.trans h.os,k.tape.trans h.tape,k.output.trans h.output,jk h.size k.size,λi hi A=>(k.block i (jy hi h.size) A).trans (h.block i hi A)⟩
def a2z(mt:Option (Nat×MS))(b:Nat)(m:MS)(A:mt=O (b,m))(n:Int)(w:K)(h:o9 w mt):
  iW iN 33 #[mG (O (Z b 0 U)),V X n] w λe w'=>e=mK (V X (z8 n mt))/\w.grownBy w' (nY mt)/\o9 w' (rZ n mt):=by
 subst A;exact(Ia b m n w h.2 h.1).mono λe w' ⟨C,E,J⟩=>⟨C,E,J,h.2.take n⟩
def YR(mt:Option (Nat×MS))(W:K):lJ iN (eqGuard BinOp.neq 89 (Operand.tmp 29) (Operand.const (Value.pointer U)) (KI mt) (mG U)) W=.ok () W:=by
 cases mt with
 |none=>rfl
 |some x=>rfl
def a5A(mt:Option (Nat×MS))(W:K):lJ iN (binOp BinOp.neq 89 (KI mt) (mG U)) W=.ok (mH mt.isSome) W:=by
 cases mt with
 |none=>rfl
 |some x=>rfl
def YS(c:Nat)(C:Int)(A:C=c)(hc:c<=4096)(w:K):(Instr.makeSlice Yr (V X 0) (V X C)).run iN w=
  .ok (G (O (Z w.heap.size 0 U)) 0 c) (w.alloc (mM (madeCells #[V .u8 0] c) xw)):=by
 subst A;have⟨i,hi,E,hs,hb⟩:=info_parts Cc;have J:=run_make (P:=iN) w Yr xw i (.int .u8 0) kQ hi E .i64 .i64 ((0:Nat):Int) (c:Int) I I (by rw[hb];omega) I;simpa [hs,Value.cells]using J
def Wp(c:Nat):(madeCells #[lL .u8 0] c).size=c:=by
 rw[<-jR,toList_madeCells_one];simp
def Me(T b:Nat)(w:K):Nat:=match w.cell? (Z b 1 U),w.cell? (Z b 2 U)with
 |some (V _ p),O (V _ f)=>if f=0 then T - p.toNat else 0
 |_,_=>0
def KJ(h:wL w b r):Me r.t.size b w=r.left:=by
 unfold Me RS.left;have c1:=b5 h 1;have c2:=b5 h 2;simp[RS.cs]at c1 c2;rw[c1,c2];simp
structure UnI(b:Nat)(w:K)(mt:Option (Nat×MS))(r:RS)(v:iQ)(l:List AC)(W:K):Prop where
 sn:LZ w.heap.size b w r v l W
 mt:o9 W mt
def Q3{mt JX:Option (Nat×MS)}{v:iQ}(hg:w.grownBy w0 (nY mt))(h:UnI b w0 JX r v l W):w.grownBy W (nY mt)/\o9 W JX:=
 ⟨pJ hg (oP h.sn.pV),h.mt⟩
def a2B{A:K}{mt:Option (Nat×MS)}(h:o9 W mt)(hlt:∀x,nY mt=O x->x<B)(hB:B<=W.heap.size)(hb:iR B W A):o9 A mt:=by
 cases mt with
 |none=>trivial
 |some x=>exact⟨a7 hb h.1 (hlt _ rfl),h.2⟩
def Wq{v:iQ}(h:nS w B xw v l):∃A C,v=G A l.length C:=by
 rcases h.2 with⟨rfl,h0⟩|⟨g,cap,E,rfl,_⟩
 .exact⟨U,0,by rw[h0]⟩
 .exact⟨_,_,rfl⟩
def Ue{mt:Option (Nat×MS)}{v:iQ}(h:UnI b w mt r v l W)(k:Nat):UnI b w mt r v l (W.drewN k):=
 ⟨⟨h.sn.own,h.sn.rd,h.sn.ok,h.sn.hB,⟨h.sn.pV.os,h.sn.pV.tape,h.sn.pV.output,h.sn.pV.size,h.sn.pV.block⟩⟩,h.mt⟩
def Uf(h:p:=by
 have HRR:=Y hR;go_in;go_wp2_with fail;refine CS.mono ?_;rintro e w2 ⟨rfl,rfl⟩;go_wp2;go_returns;rw[<-HRR.out];exact⟨World.grownBy.refl _ _,HMT.out,rfl⟩):p:=h
def YT(h:p:=by
 rw[Ax c1,Ax (r.Cf 2 mX).2.2]at YU;have hfn:=(r.Cf 2 mX).2.2;have hfp:=RS.y9 r (x:=2) mX hnn;have a5z:=Y (HU.sn.ok.fail 2);generalize r.fail 2=r3 at*;have hfb:(r3.f !=0)=u:=by simp[hfn]
 go_wp2_with fail;refine vF CX λw7 hu hr=> ?_
 have HU7:R (UnI b wc (rZ n mt) r3 (G oq L cq) l w7):=Y ⟨HU.sn.read hu hr a5z.out,a2B HU.mt HLT (jk HU.sn.hB (cG HU.sn.lt)) (oO.below (B:=wc.heap.size) (b:=b) hu (iT _ _) HU.sn.hB (jk HU.sn.hB (cG HU.sn.lt)))⟩;have CF7:=Y (pU b r3 w7 hr);clear hu hr;go_wp2_with fail;refine CF7.mono ?_;rintro e w8 ⟨rfl,rfl⟩;go_wp2_with fail;refine CF7.mono ?_;rintro e w8 ⟨rfl,rfl⟩;go_wp2;go_returns;rw[YU.out];have hend:=Q3 H3.1 HU7.out;exact⟨hend.1,hend.2,by dsimp only;rw[cY hfp];rfl⟩):p:=h
def Ov(s:An)(most:Int)(mt:Option (Nat×MS))(w:K)(hs:s.size<=jd)(cZ:most<=65536)(bI:o9 w mt):
  iW iN 148 #[H s,V X most,KI mt] w (YQ (sK s most mt) mt w):=by
 have CS:=Y (Wm s w hs);have df:s.size<=9223372036854775807:=by unfold jd at hs;omega
 have⟨aE,hR⟩:=nE (sK s most mt);rw[hR];unfold sK at hR;have bJ:=λn k h=>KH (l:=s.data.toList) (n:=n) (k:=k) h
 have⟨n,k,er,hsz⟩:∃n k er,qG s.data.toList=(n,k,er):=⟨_,_,_,rfl⟩;rw[hsz]at CS hR;have HMT:=Y bI;dsimp only at CS hR;by_cases he:er=0;case neg=>
  rw[Ax he]at hR;have dh:((er:Int)==0)=M:=qJ;have dw:((er:Int) !=0)=u:=yE;exact Uf
 subst he;rw[At ny]at hR;have⟨hk,bY⟩:=bJ n k hsz;rw[<-EE]at hk;by_cases aM:most<n
 .rw[Ax aM]at hR
  exact Uf
 rw[At aM]at hR;have⟨E,ae⟩:=nE (z8 n mt);have bu:0<=E:=ae▸C8 _ _;rw[ae]at hR;have HRR:=Y hR;have ak:=Y ae;have bz:n<=65536:=I;have bZ:As (most<(n:Int))=M:=nk;have dF:=a5A mt;have dx:=YR mt;have bA:R (∀b m,mt=O (b,m)->iW iN 33 #[mG (O (Z b 0 U)),V X n] w λe w'=>e=mK (V X E)/\w.grownBy w' (nY mt)/\o9 w' (rZ n mt)):=Y λb m h=>ae▸a2z mt b m h n w HMT.out
 go_in;go_wp2_with fail;refine CS.mono ?_;rintro e w2 ⟨rfl,rfl⟩;clear CS;go_upto_if 31 with(fail)
 go_cut [10] (λev bK=>ev=V X E/\R (w.grownBy bK (nY mt)/\o9 bK (rZ n mt)));case first=>
  cases mt with
  |none=>
   have ht:R (E=0):=Y ak.symm;go_wp2_with fail;go_meet;exact⟨by rw[ht.out],Y ⟨World.grownBy.refl _ _,trivial⟩⟩
  |some x=>
   obtain⟨bm,m⟩:=x;have bL:=Y (bA bm m rfl);have bB:KI (O (bm,m))=mG (O (Z bm 0 U)):=rfl;simp only[bB];clear bA HRR HMT ak;go_wp2_with fail;refine vF bL λw3 aN aO=> ?_
   have H3:=Y (iU aN aO);clear aN aO;go_wp2_with fail;go_meet;exact⟨rfl,H3⟩
 case rest=>
  obtain⟨rfl,H3⟩:=hcut;clear bA;by_cases aH:E=0;case neg=>
   have dz:(E !=0)=u:=by simp[aH]
   have bM:R (aE=(.error E.toNat,rZ n mt)):=Y (by rw[<-HRR.out,Ax aH]);clear aH HRR;go_wp2;go_returns;rw[bM.out];exact⟨H3.1,H3.2,by dsimp only;rw[cY bu];rfl⟩
  subst aH;have HRR:R (aE=(uV (s.extract k s.size) n,rZ n mt)):=Y (by rw[<-HRR.out];rfl);have⟨c,hc⟩:=nE (min n 4096);have af:min (n:Int) 4096=(c:Int):=I;have ag:(if(4096:Int)<(n:Int)then(4096:Int)else(n:Int))=(c:Int):=by split<;>omega
  have bN:=λw=>YS c c rfl I w
  have dA:4096<=jd:=xh;have au:=Y (nS.made wc wc.heap.size xw (madeCells #[V .u8 0] c) c (iP _) I (Wp c));have av:=(iT wc.heap.size wc).alloc (iP _) (mM (madeCells #[V .u8 0] c) xw);have aP:=Y av;have aQ:=Y (H3.2.grown av);have HLT:R (∀x,nY (rZ n mt)=O x->x<wc.heap.size):=Y λx aI=>by
   have:=H3.2;cases aR:rZ n mt with
   |none=>rw[aR]at aI;cases aI
   |some y=>rw[aR]at aI this;cases aI;exact mY.lt this.1
  have bC:(wc.alloc (mM (madeCells #[V .u8 0] c) xw)).heap.size=wc.heap.size+1:=ny;have bO:(k:Int)<=(s.size:Int):=I;have⟨J,aS⟩:=nE (s.extract k s.size);have ax:J.size<=9223372036854775807:=by rw[<-aS];simp[iV];omega
  rw[aS]at HRR;clear hc av ak HMT;go_upto_region 9 with fail;generalize wc.alloc _=w1 at*;have aU:=Y (zX J w1);simp only[af,ag]at*;go_wp2_with fail;refine aU.mono ?_;obtain⟨b,ay⟩:=o7 w1;rintro e w2 ⟨rfl,ah,bD,aV⟩;have aW:wc.heap.size<=w1.heap.size:=I;have az:R (UnI b wc (rZ n mt) (RS.of J) (G (O (Z wc.heap.size 0 U)) 0 c) [] w2):=Y ⟨⟨au.below ah,ay▸aV,RS.Ok.of ax,I,aP.trans (ah.mono aW)⟩,aQ.grown ah⟩;have⟨ai,aX⟩:=nE (uU n (J.size+1) (RS.of J) []);have aA:=Y aX;obtain⟨dG,aY⟩:=o7 wc;rw[ay];rw[aY]at az|-;have⟨T,bP⟩:=nE J.size;have bE:=Y bP;clear ah bD aV au aP aQ aU bC bN aX ay aW aY bP bO ax af ag;go_wp2;go_loopw [11] (λlv bF=>∃(r:RS) (l:List AC),R (UnI b wc (rZ n mt) r lv l bF)/\R (∃F,r.left<F/\uU n F r l=ai)/\R (r.t.size=T)/\l.length<=n/\0<=r.f) (λ_ bF=>Me T b bF);case atStart=>exact⟨RS.of J,[],az,Y ⟨T+1,by unfold RS.left RS.of;simp[bE.out],by rw[<-bE.out];exact aA.out⟩,bE,jB _,dt _⟩
  case round=>
   obtain⟨r,l,HU,bG,A,hl,hnn⟩:=hrel;have⟨oq,cq,bB⟩:=Wq HU.sn.own;subst bB;have⟨L,hL⟩:=nE l.length;have bQ:=Y hL;rw[hL]at HU|-;clear hL;have aJ:=Y (pU b r wr HU.sn.rd);have aj:=Y (FD b r wr HU.sn.ok HU.sn.rd);have dB:r.p<=T:=by rw[<-A.out];exact HU.sn.ok.1
   rw[A.out]at aj;clear az;by_cases C:r.f=0;case neg=>
    have cz:(r.f==0)=M:=by simp[C]
    go_wp2_with fail;refine aJ.mono ?_;rintro e aK ⟨rfl,rfl⟩
    have aB:R (ai=(r,l)):=Y (by obtain⟨F,aD,N⟩:=bG.out;rw[<-N];cases F with
     |zero=>rfl
     |succ F=>exact At (λh=>C h.1))
    have YU:R (aE=((if(if l.length<n then r.fail 2 else r).f≠0 then .error (if l.length<n then r.fail 2 else r).f.toNat else .ok l),rZ n mt)):=Y (by rw[HRR.out];unfold uV;rw[aA.out,aB.out]);rw[bQ.out]at YU;clear aB;by_cases c1:L<n
    .have CX:=Y (uI b r 2 wr HU.sn.rd)
     exact YT
    .rw[At c1]at YU
     have CF7:=Y (pU b r wr HU.sn.rd);by_cases c2:r.f=0;.exact absurd c2 C
     .rw[Ax c2]at YU
      have hfb:(r.f !=0)=u:=by simp[c2]
      go_wp2_with fail;refine CF7.mono ?_;rintro e w8 ⟨rfl,rfl⟩;go_wp2_with fail;refine CF7.mono ?_;rintro e w8 ⟨rfl,rfl⟩;go_wp2;go_returns;rw[YU.out];have hend:=Q3 H3.1 HU.out;exact⟨hend.1,hend.2,by dsimp only;rw[cY hnn];rfl⟩
   rw[C]at aJ;by_cases hp:r.p<T;case neg=>
    have aZ:((T:Int) -(r.p:Int))=0:=I;rw[aZ]at aj;go_wp2_with fail;refine aJ.mono ?_;rintro e aK ⟨rfl,rfl⟩;go_wp2_with fail;refine aj.mono ?_;rintro e aK ⟨rfl,aa,rfl⟩;have HU:R (UnI b wc (rZ n mt) r (G oq L cq) l (wr.drewN aa)):=Y (Ue HU aa);generalize wr.drewN aa=aL at*
    have aB:R (ai=(r,l)):=Y (by obtain⟨F,aD,N⟩:=bG.out;rw[<-N];cases F with
     |zero=>rfl
     |succ F=>exact At (λh=>hp (by rw[<-A.out];exact h.2)))
    have YU:R (aE=((if(if l.length<n then r.fail 2 else r).f≠0 then .error (if l.length<n then r.fail 2 else r).f.toNat else .ok l),rZ n mt)):=Y (by rw[HRR.out];unfold uV;rw[aA.out,aB.out]);rw[bQ.out]at YU;clear aB;by_cases c1:L<n
    .have CX:=Y (uI b r 2 aL HU.sn.rd)
     exact YT
    .rw[At c1]at YU
     have CF7:=Y (pU b r aL HU.sn.rd);by_cases c2:r.f=0
     .rw[At (by simpa using c2)]at YU
      rw[c2]at CF7;have dD:=(HU.sn.own:nS aL wc.heap.size xw (G oq L cq) l).string NV;go_wp2_with fail;refine vE CF7 ?_;go_wp2;go_returns;rw[YU.out];have hend:=Q3 H3.1 HU.out;exact⟨hend.1,hend.2,rfl⟩
     .exact absurd C c2
   .have aZ:(0:Int)<(T:Int) -(r.p:Int):=I
    have cK:=Y (λW (h:LZ wc.heap.size b wc r (G oq L cq) l W)=>L8 wc.heap.size b wc r (G oq L cq) l n W h hl bz);have bR:=xS (size:=n) HU.sn.ok hl C (by rw[A.out];exact hp);have bg:=Q0 (size:=n) HU.sn.ok hl C (by rw[A.out];exact hp);have bH:=YP (l:=l) (size:=n) hnn;have bS:R (∃F,(p8 r l n).1.left<F/\uU n F (p8 r l n).1 (p8 r l n).2=ai):=Y (by
     have⟨F,aD,N⟩:=bG.out;cases F with
     |zero=>omega
     |succ F=>
      simp only[uU]at N;rw[Ax ⟨C,by rw[A.out];exact hp⟩]at N;exact⟨F,I,N⟩)
    have bT:R ((p8 r l n).1.left<Me T b wr):=Y (by rw[<-A.out,KJ HU.sn.rd];exact bg);obtain⟨bq,bU,dE,bV⟩:=bR;have aF:R ((p8 r l n).1.t.size=T):=Y (by rw[bq];exact A);generalize (p8 r l n).1=r4 at*;generalize (p8 r l n).2=bW at*;clear bq bU bg;go_wp2_with fail;refine aJ.mono ?_;rintro e aK ⟨rfl,rfl⟩;go_wp2_with fail;refine aj.mono ?_;rintro e aK ⟨rfl,aa,rfl⟩;have bX:R (UnI b wc (rZ n mt) r (G oq L cq) l (wr.drewN aa)):=Y (Ue HU aa);generalize wr.drewN aa=aL at*;go_wp2_with fail;refine(cK _ bX.sn).mono ?_;rintro e w7 ⟨v7,rfl,aG⟩;have HU7:R (UnI b wc (rZ n mt) r4 v7 bW w7):=Y ⟨aG,H3.2.grown aG.pV⟩;clear aG;go_wp2;go_roundw;case rel=>exact⟨r4,bW,HU7,bS,aF,bV,bH⟩
    case measure=>
     have aD:=KJ HU7.sn.rd;rw[aF.out]at aD;rw[aD];exact bT
end
end Go.Proofs.YtamfcjmhnndbdaaGreatDoor


