/- Part 8 of the proof. -/
import Derived.Test.YtamfcjmhnndbdaaGreatDoorZu00
import Derived.Test.YtamfcjmhnndbdaaGreatDoorZu05
import Derived.Test.YtamfcjmhnndbdaaGreatDoorZu06
import Derived.Test.YtamfcjmhnndbdaaGreatDoorZu07
import Derived.Deep.RegionWith
import Derived.Lib.Strings
import Derived.StillTail
open Go.Value renaming agg→nC,bool→nA,int→ng,pointer→nz,slice→nk,string→ny,tuple→nD,int→lT
open Go.Obj renaming cells→nG
open Go.IntKind renaming i64→nH,u64→nI
open Go.Ending renaming returned→nE,returned→lH
open Go.Lib renaming hid→jH,extract_data→mY
open Go.Proofs.Tryz renaming prog→jI,underlying3→mh
open Go renaming World→jJ,Value→jP,Calls→jV,bodyPost_ret→j4,maxLen→j5,TypeId→ko,undef→kH,results→kK,Oper→lX,Addr→l5,wpQuiet_nil→mJ,Program→mK
open List renaming setIfInBounds_toArray→jK,getElem?_cons_succ→jM,getElem?_cons_zero→jN,getElem?_toArray→jO,set_cons_zero→jQ,set_cons_succ→jR,getElem?_eq_getElem→jX,take_succ_cons→ky,length_cons→kD,length_drop→kS,mem_of_getElem?→kT,length_take→kY,getElem?_eq_some_iff→ll,replicate→lu,all_eq_true→lY,length_eq_zero_iff→mf,mem_cons→mD,size_toArray→mP,cons_append→mU
open Nat renaming le_refl→jL,le_trans→kg,lt_of_lt_of_le→kG,zero_le→kI,le_succ→kX,lt_or_ge→lh,pow_le_pow_right→lq,le_of_eq→mV
open Go.RowKit renaming Below→jS,Hid→jW,intOf→kW
open Go.RowKit.Below renaming refl→jT
open UInt8 renaming ofNat→jZ
open Bool renaming and_eq_true→j3,false_eq_true→lF
open ByteArray renaming size_extract→kz
open Go.World renaming setCell→kC,cell?→mW
open Go.Act renaming put→kE
open Go.Lit renaming int→lJ
open Array renaming getElem?_modify→lL
open Go.Instr renaming lookup→lV,makeFunc→mG
open Go.Sem renaming run→mi
namespace Go.Proofs.YtamfcjmhnndbdaaGreatDoor
set_option linter.unusedVariables false
set_option linter.unusedSimpArgs false
set_option maxRecDepth 100000
set_option maxHeartbeats 8000000
variable {p:Prop}{α:Type}{l:List UInt8}
section
open Go.RowKit Go.Maps
def uu:Gd (jP×jP) where
 ev p:=nC #[p.1,p.2]
 R v:=match v with
  | nC cs=>match cs.toList with
   |[a,b]=>some (.held (a,b),[])
   |_=>none
  |_=>none
 lay x:=rfl
 inv v z h:=by
  cases v with
  |agg cs=>
   dsimp only at h;split at h
   .rename_i a b he
    cases h;refine⟨(a,b),?_,rfl⟩;congr 1;apply Array.ext';rw[he]
   .cases h
  |_=>cases h
def KiK:DX jI 3 Int:=intKeys mh
abbrev Ux:ko:=235
def PY(f:FuncId):jP:=.func (.func f) #[] #[]
def kf1:jP×jP:=(PY 228,PY 226)
def kf2:jP×jP:=(PY 229,PY 230)
def kf3:jP×jP:=(PY 232,PY 226)
def kf4:jP×jP:=(PY 233,PY 234)
def kf5:jP×jP:=(PY 236,PY 237)
def PZ:List (Int×(jP×jP)):=[(5,kf5),(4,kf4),(3,kf3),(2,kf2),(1,kf1)]
theorem Uy(w:jJ):(zeroValue 239).run jI w=.ok (uu.ev (.nilFunc,.nilFunc)) w:=rfl
def xC(w:jJ)(b:Nat):Prop:=qA KiK uu w b 5 PZ
theorem xC.look{w:jJ}{b:Nat}(h:xC w b)(k:Int)(hk:(lJ nH k).wf=true)(p:jP×jP)(hp:uK PZ k=some p):
  (lV Ux (.map (some b)) (ng nH k) false).run jI w=.ok (nC #[p.1,p.2]) w:=by
 have A:=qA.look (x:=k) h Tryz.underlying235 Uy hk;rw[hp]at A;exact A
theorem xC.below{w w':jJ}{b:Nat}(h:xC w b)(hb:jS w.heap.size w w'):xC w' b:=qA.below h hb
theorem Nc(w:jJ):jV jI 196 #[] w λe w'=>e=nE (.map (some w.heap.size))/\xC w' w.heap.size/\jS w.heap.size w w':=by
 have aA:=@run_makeMap jI;obtain⟨g,hg⟩:=nT w.heap.size;have N:=qA.made KiK uu w;have I:=(jT w.heap.size w).alloc (jL _) (.map #[] 0);have O:(w.alloc (.map #[] 0)).heap.size=g+1:=by simp[hg]
 rw[hg]at N I;have N:=jH N;have Q:=jH I;rw[hg];clear I;go_in;go_upto_region 2 with fail
 go_wp2_with (first
  |(refine qm (E:=KiK) (F:=uu) (x:=(1:Int)) (y:=kf1) rfl _ _ _ rfl Tryz.underlying235 N rfl rfl (show(lJ .i64 1).wf=true by decide) rfl yc ?_;intro w2 A C;have af:=jH A;have U:=jH C;clear A C)
  |(refine qm (E:=KiK) (F:=uu) (x:=(2:Int)) (y:=kf2) rfl _ _ _ rfl Tryz.underlying235 af rfl rfl (show(lJ .i64 2).wf=true by decide) rfl yc ?_;intro w2 A C;have ag:=jH A;have V:=jH C;clear A C)
  |(refine qm (E:=KiK) (F:=uu) (x:=(3:Int)) (y:=kf3) rfl _ _ _ rfl Tryz.underlying235 ag rfl rfl (show(lJ .i64 3).wf=true by decide) rfl yc ?_;intro w2 A C;have ah:=jH A;have Y:=jH C;clear A C)
  |(refine qm (E:=KiK) (F:=uu) (x:=(4:Int)) (y:=kf4) rfl _ _ _ rfl Tryz.underlying235 ah rfl rfl (show(lJ .i64 4).wf=true by decide) rfl yc ?_;intro w2 A C;have ai:=jH A;have Z:=jH C;clear A C)
  |(refine qm (E:=KiK) (F:=uu) (x:=(5:Int)) (y:=kf5) rfl _ _ _ rfl Tryz.underlying235 ai rfl rfl (show(lJ .i64 5).wf=true by decide) rfl yc ?_;intro w2 A C;have aj:=jH A;have aa:=jH C;clear A C))
 go_returns;have J:∀{a b:jJ},pE g a b->g<=a.heap.size->jS g w a->g<=b.heap.size/\jS g w b:=λae hs hb=>⟨kg hs ae.size,ae.below hb (jL _) hs⟩
 obtain⟨ak,b1⟩:=J U (by rw[O];exact kX _) Q.out;obtain⟨au,av⟩:=J V ak b1;obtain⟨ax,b3⟩:=J Y au av;obtain⟨ay,b4⟩:=J Z ax b3;obtain⟨aB,az⟩:=J aa ay b4;exact⟨rfl,aj.out,az⟩
def rP(t:nL TL)(i:Nat):Option (nL TL):=if t.lab.kind=4 then t.sub[0]? else t.sub[i]?
theorem Xh(h:p:=by
 have HQ:=jH ((((hB2.set 0 (ng nH yk)).set 1 (ng nH yz)).set 2 (nk ou un uc)).set 3 (ng nH yl));have P5:=jH ((((hbe.setCell (p:=⟨g+1,0,none⟩) (kX _) (ng nH yk)).setCell (p:=⟨g+1,1,none⟩) (kX _) (ng nH yz)).setCell (p:=⟨g+1,2,none⟩) (kX _) (nk ou un uc)).setCell (p:=⟨g+1,3,none⟩) (kX _) (ng nH yl));clear HW c0 c1 c2 c3 hB1 hB2 hbe;go_wp2_with fail;have d0:=HQ.cell 0;have d1:=HQ.cell 1;have d2:=HQ.cell 2;have d3:=HQ.cell 3;simp only[jK,jQ,jR,jO,jN,jM]at d0 d1 d2 d3;refine j4 (v:=nC #[ng nH yk,ng nH yz,nk ou un uc,ng nH yl]) (by simp[kK,Tryz.results198,go_sem,d0,d1,d2,d3]) rfl ⟨rfl,P5.out⟩):p:=h
theorem KF(t:nL TL)(i:Nat)(w:jJ)(tv:jP)(aj:oL w tv t.sub)(y:nL TL)(ou:Option l5)(un uc:Nat)(af:∃b off,(∃n cap,tv=nk (some ⟨b,off,none⟩) n cap/\(if t.lab.kind=4 then 0 else i)<n/\n<=100000)/\b<w.heap.size/\w.cell? ⟨b,off+(if t.lab.kind=4 then 0 else i)*4,none⟩=some (ng nH y.lab.kind)/\
   w.cell? ⟨b,off+(if t.lab.kind=4 then 0 else i)*4+1,none⟩=some (ng nH y.lab.size)/\w.cell? ⟨b,off+(if t.lab.kind=4 then 0 else i)*4+2,none⟩=some (nk ou un uc)/\w.cell? ⟨b,off+(if t.lab.kind=4 then 0 else i)*4+3,none⟩=some (ng nH y.lab.tail)):
  jV jI 198 #[nC #[ng nH t.lab.kind,ng nH t.lab.size,tv,ng nH t.lab.tail],ng nH i] w λe w'=>e=nE (nC #[ng nH y.lab.kind,ng nH y.lab.size,nk ou un uc,ng nH y.lab.tail])/\jS w.heap.size w w':=by
 obtain⟨b,off,⟨n,cap,rfl,hin,aB⟩,hb,c0,c1,c2,c3⟩:=af;obtain⟨A,C⟩:=nT ((if t.lab.kind=4 then 0 else i));rw[C]at hin c0 c1 c2 c3;have I:(t.lab.kind=4/\A=0)\/(t.lab.kind≠4/\A=i):=by
  by_cases hk:t.lab.kind=4;.exact .inl ⟨hk,by rw[<-C,if_pos hk]⟩
  .exact .inr ⟨hk,by rw[<-C,if_neg hk]⟩
 clear C aj;obtain⟨k,J⟩:=nT t.lab.kind;obtain⟨z,Y⟩:=nT t.lab.size;obtain⟨tl,Z⟩:=nT t.lab.tail;obtain⟨yk,N⟩:=nT y.lab.kind;obtain⟨yz,O⟩:=nT y.lab.size;obtain⟨yl,Q⟩:=nT y.lab.tail;rw[J,Y,Z,N,O,Q];rw[J]at I;rw[N]at c0;rw[O]at c1;rw[Q]at c3;clear J Y Z N O Q;obtain⟨g,hg⟩:=nT w.heap.size;have aa:=nO.new w #[ng nH k,ng nH z,nk (some ⟨b,off,none⟩) n cap,ng nH tl] EW;have ae:=(jT w.heap.size w).alloc (jL _) (nG #[ng nH k,ng nH z,nk (some ⟨b,off,none⟩) n cap,ng nH tl] EW);have E:=ae.alloc nR (nG #[ng nH 0,ng nH 0,nk none 0 0,ng nH 0] EW);have ag:(w.alloc (nG #[ng nH k,ng nH z,nk (some ⟨b,off,none⟩) n cap,ng nH tl] EW)).heap.size=g+1:=by simp[hg]
 have U:=nO.new (w.alloc (nG #[ng nH k,ng nH z,nk (some ⟨b,off,none⟩) n cap,ng nH tl] EW)) #[ng nH 0,ng nH 0,nk none 0 0,ng nH 0] EW;rw[ag]at U;have V:=aa.alloc (nG #[ng nH 0,ng nH 0,nk none 0 0,ng nH 0] EW);rw[hg]at V E hb⊢
 have HW:jW (∀W,(w.alloc (nG #[ng nH k,ng nH z,nk (some ⟨b,off,none⟩) n cap,ng nH tl] EW)).alloc (nG #[ng nH 0,ng nH 0,nk none 0 0,ng nH 0] EW)=W->
   nO W g #[ng nH k,ng nH z,nk (some ⟨b,off,none⟩) n cap,ng nH tl] EW/\nO W (g+1) #[ng nH 0,ng nH 0,nk none 0 0,ng nH 0] EW/\jS g w W):=jH λW h=>by subst h;exact⟨V,U,E⟩
 clear aa U V ae E ag;rcases I with⟨rfl,rfl⟩|⟨hk,rfl⟩
 .rw[Nat.zero_mul,Nat.add_zero]at c0 c1 c2 c3
  go_in;go_upto_region 1 with fail;obtain⟨hB1,hB2,hbe⟩:=HW.out _ rfl;generalize (w.alloc _).alloc _=w1 at*;have ah:=jH hbe;have ai:=jH hB2;have ak:=hB1.c0;have au:=hB1.c2;obtain⟨r0,r1,r2,r3,z0,av,ax,z3⟩:=hB2.b4;have ay:=(hbe.cell (p:=⟨b,off,none⟩) hb).trans c0;have az:=(hbe.cell (p:=⟨b,off+1,none⟩) hb).trans c1;have y2:=(hbe.cell (p:=⟨b,off+2,none⟩) hb).trans c2;have aA:=(hbe.cell (p:=⟨b,off+3,none⟩) hb).trans c3;exact Xh
 .have aC:(k==4)=false:=by simp[hk]
  clear hk;go_in;go_upto_region 1 with fail;obtain⟨hB1,hB2,hbe⟩:=HW.out _ rfl;generalize (w.alloc _).alloc _=w1 at*;have ah:=jH hbe;have ai:=jH hB2;have ak:=hB1.c0;have au:=hB1.c2;obtain⟨r0,r1,r2,r3,z0,av,ax,z3⟩:=hB2.b4;have ay:=(hbe.cell (p:=⟨b,off+A*4,none⟩) hb).trans c0;have az:=(hbe.cell (p:=⟨b,off+A*4+1,none⟩) hb).trans c1;have y2:=(hbe.cell (p:=⟨b,off+A*4+2,none⟩) hb).trans c2;have aA:=(hbe.cell (p:=⟨b,off+A*4+3,none⟩) hb).trans c3;exact Xh
def rC(t:nL TL)(x:IL)(m:Nat):Bool:=
 if t.lab.kind=1 then zT t.lab x else if t.lab.kind=2 then A9 t.lab x else if t.lab.kind=3 then Ba t.lab x else if t.lab.kind=4 then CE t.lab x m else if t.lab.kind=5 then zU t.lab t.sub.length x m else false
mutual
def uw:nL IL->nL TL->Bool
 | .node a s,t=>rC t a s.length&&sV s t 0
def sV:List (nL IL)->nL TL->Nat->Bool
 |[],_,_=>true
 |x::xs,t,i=>(match rP t i with|some y=>uw x y|none=>false)&&sV xs t (i+1)
end
theorem Gx(x:nL IL)(t:nL TL):∀(s:List (nL IL))(i:Nat),sV (s++[x]) t i=(sV s t i&&(match rP t (i+s.length)with|some y=>uw x y|none=>false))
 |[],i=>by simp[sV]
 |y::ys,i=>by
  simp only[mU,sV];rw[Gx x t ys (i+1),Bool.and_assoc,kD,show i+1+ys.length=i+(ys.length+1)by omega]
theorem P6{s:List (nL IL)}{t:nL TL}{k:Nat}{x:nL IL}{y:nL TL}(h:s[k]? =some x)(A:rP t k=some y):sV (s.take (k+1)) t 0=(sV (s.take k) t 0&&uw x y):=by
 have hlt:=(ll.1 h).1;have hl:(s.take k).length=k:=by rw[kY];omega
 have e:s.take (k+1)=s.take k++[x]:=by rw[List.take_add_one,h];rfl
 rw[e,Gx,hl,Nat.zero_add,A]
theorem EH{t:nL TL}{x:nL IL}{y:nL TL}:∀{s:List (nL IL)}{k i:Nat},s[k]? =some x->rP t (i+k)=some y->uw x y=false->sV s t i=false
 |[],k,i,h,_,_=>by simp at h
 |z::zs,0,i,h,A,C=>by
  simp at h;subst h;simp only[sV];rw[Nat.add_zero]at A;rw[A];dsimp only;rw[C];rfl
 |z::zs,k+1,i,h,A,C=>by
  simp only[sV];rw[EH (k:=k) (i:=i+1) (by simpa using h) (by rw[<-A];congr 1;omega) C,Bool.and_false]
theorem Nf{t:nL TL}{a:IL}{m k:Nat}(E:oG t.lab t.sub=true)(h:rC t a m=true)(I:a.list=true\/m=0)(hk:k<m):∃y,rP t k=some y/\y∈t.sub:=by
 have A:∀i,i<t.sub.length->∃y,t.sub[i]? =some y/\y∈t.sub:=λi hi=>⟨_,jX hi,List.getElem_mem hi⟩
 unfold oG qz at E;simp only[decide_eq_true_eq]at E;have hl:a.list=true:=I.resolve_right nK;unfold rC at h;unfold rP;split at h;.simp[zT,hl]at h
 .split at h
  .simp[A9,hl]at h
  .split at h
   .simp[Ba,hl]at h
   .split at h
    .rename_i C
     rw[if_pos C];exact A 0 nK
    .rename_i C
     rw[if_neg C];split at h
     .simp only[zU,j3,decide_eq_true_eq]at h
      exact A k nK
     .cases h
structure FtE(bo bf bm:Nat)(w:jJ):Prop where
 o:nO w bo #[.map (some bm)] Ux
 m:xC w bm
 f:nO w bf #[.func (.func 197) #[] #[nz (some ⟨bo,0,none⟩),nz (some ⟨bf,0,none⟩)]] 108
theorem FtE.below{bo bf bm:Nat}{w w':jJ}(h:FtE bo bf bm w)(hb:jS w.heap.size w w'):FtE bo bf bm w':=⟨Below.blk hb h.o h.o.lt,h.m.below hb,Below.blk hb h.f h.f.lt⟩
theorem a0Q(t:nL TL)(x:IL)(ot oi:Option l5)(m ct ci:Nat)(E:oG t.lab t.sub=true)(C:x.text.length<=j5)(I:m<=100000):
  (t.lab.kind=1/\∀W,jV jI 228 #[nC #[ng nH t.lab.kind,ng nH t.lab.size,nk ot t.sub.length ct,ng nH t.lab.tail],nC #[ny (txt x),nA x.list,nk oi m ci]] W λe w'=>e=nE (nA (rC t x m))/\jS W.heap.size W w')\/
  (t.lab.kind=2/\∀W,jV jI 229 #[nC #[ng nH t.lab.kind,ng nH t.lab.size,nk ot t.sub.length ct,ng nH t.lab.tail],nC #[ny (txt x),nA x.list,nk oi m ci]] W λe w'=>e=nE (nA (rC t x m))/\jS W.heap.size W w')\/
  (t.lab.kind=3/\∀W,jV jI 232 #[nC #[ng nH t.lab.kind,ng nH t.lab.size,nk ot t.sub.length ct,ng nH t.lab.tail],nC #[ny (txt x),nA x.list,nk oi m ci]] W λe w'=>e=nE (nA (rC t x m))/\jS W.heap.size W w')\/
  (t.lab.kind=4/\∀W,jV jI 233 #[nC #[ng nH t.lab.kind,ng nH t.lab.size,nk ot t.sub.length ct,ng nH t.lab.tail],nC #[ny (txt x),nA x.list,nk oi m ci]] W λe w'=>e=nE (nA (rC t x m))/\jS W.heap.size W w')\/
  (t.lab.kind=5/\∀W,jV jI 236 #[nC #[ng nH t.lab.kind,ng nH t.lab.size,nk ot t.sub.length ct,ng nH t.lab.tail],nC #[ny (txt x),nA x.list,nk oi m ci]] W λe w'=>e=nE (nA (rC t x m))/\jS W.heap.size W w'):=by
 unfold oG qz at E;simp only[decide_eq_true_eq]at E;have hk:t.lab.kind=1\/t.lab.kind=2\/t.lab.kind=3\/t.lab.kind=4\/t.lab.kind=5:=nK;have A:∀k,t.lab.kind=k->rC t x m=if k=1 then zT t.lab x else if k=2 then A9 t.lab x else if k=3 then Ba t.lab x else if k=4 then CE t.lab x m else if k=5 then zU t.lab t.sub.length x m else false:=λk h=>by unfold rC;rw[h]
 rcases hk with h|h|h|h|h
 .exact .inl ⟨h,λW=>by rw[A _ h];exact Xg t.lab x _ _ W C⟩
 .exact .inr (.inl ⟨h,λW=>by rw[A _ h];exact Xc t.lab x _ _ W C⟩)
 .exact .inr (.inr (.inl ⟨h,λW=>by rw[A _ h];exact Xd t.lab x _ _ W C⟩))
 .exact .inr (.inr (.inr (.inl ⟨h,λW=>by rw[A _ h];exact Xe t.lab x _ _ t.sub.length m _ _ W nK I nK⟩)))
 .exact .inr (.inr (.inr (.inr (⟨h,λW=>by rw[A _ h];exact Xf t.lab x _ _ t.sub.length m _ _ W nK I nK⟩))))
theorem a0R(a b:jP)(W:jJ):mi jI (Instr.field 239 (nC #[a,b]) 0) W=.ok a W:=rfl
theorem CJ{p:α->List (nL α)->Bool}:∀{s:List (nL α)},nL.o7 p s=true->∀{y:nL α},y∈s->y.all p=true
 |[],_,_,A=>by cases A
 |z::zs,h,y,A=>by
  simp only[nL.o7,j3]at h;rcases mD.1 A with rfl|A
  .exact h.1
  .exact CJ h.2 A
theorem Gy(h:p:=by
 have CF:=jH hcall;clear hcall;go_wp2_with fail;refine(CF _).mono ?_;rintro e w2 ⟨rfl,hb2⟩;have P7:jW (jS (g+2) w1 w2):=jH (hsz▸hb2);clear hb2;go_wp2_with fail;go_meet;exact⟨rfl,P7⟩):p:=h
theorem Ng(x:nL IL):∀(t:nL TL)(w:jJ)(tv iv:jP)(bo bf bm:Nat),oL w tv t.sub->pM w iv x.sub->t.all oG=true->x.all qb=true->x.count<=100000->x.lab.text.length<=j5->FtE bo bf bm w->
  jV jI 197 #[nC #[ng nH t.lab.kind,ng nH t.lab.size,tv,ng nH t.lab.tail],nC #[ny (txt x.lab),nA x.lab.list,iv],nz (some ⟨bo,0,none⟩),nz (some ⟨bf,0,none⟩)] w
   λe w'=>e=nE (nA (uw x t))/\jS w.heap.size w w':=by
 induction x using nL.ind with
 |h a s bU=>
  intro t w tv iv bo bf bm aj ak V af au bz bV;simp only[nL.oQ,nL.qx]at*;obtain⟨ot,ct,rfl,_,_⟩:=aj.slice;obtain⟨oi,ci,rfl,_,_⟩:=nV.slice ak;obtain⟨m,aV⟩:=nT s.length;have bW:m<=100000:=by
   have A:=nL.sO s;simp only[nL.count]at au;omega
  have U:oG t.lab t.sub=true:=by
   obtain⟨ta,ts⟩:=t;simp only[nL.all,j3]at V;exact V.1
  have aW:t.sub.length<=16:=by
   have A:=U;unfold oG qz at A;simp only[decide_eq_true_eq]at A;omega
  have av:∀y,y∈t.sub->y.all oG=true:=λy I=>by
   obtain⟨ta,ts⟩:=t;simp only[nL.all,j3]at V;exact CJ V.2 I
  simp only[nL.all,j3]at af;have ax:∀y,y∈s->y.all qb=true:=λy I=>CJ af.2 I
  have bA:a.list=true\/m=0:=by
   have A:=af.1;unfold qb uM at A;split at A;.rename_i hl;exact .inl hl
   .simp only[decide_eq_true_eq]at A;exact .inr nK
  have hcall:=a0Q t a ot oi m ct ci U bz bW;have bB:=jH aj;have bX:=jH ak;have bJ:jW (∀(k:Nat)(y:nL IL),s[k]? =some y->y.count<=100000):=jH λk y I=>by
   have:=nL.BJ (kT I);simp only[nL.count]at au;omega
  have dX:=jH bU;have bC:jW (∀k,rC t a m=true->k<m->∃y,rP t k=some y/\y∈t.sub):=jH λk h hk=>Nf U h bA hk
  have bK:=jH av;have bL:=jH ax;obtain⟨g,hg⟩:=nT w.heap.size;have ay:=jH (BN (w:=w) t.lab.kind t.lab.size t.lab.tail (nk ot t.sub.length ct) (txt a) a.list (nk oi m ci));have bY:=jH aV;obtain⟨R,bM⟩:=nT (uw (.node a s) t);rw[bM];have aX:jW (R=(rC t a m&&sV s t 0)):=jH (by rw[<-bM,<-aV];rfl);have bZ:=jH bV;have az:=jH hcall;have J:jW (∀W,xC W bm->∀k p,(lJ nH k).wf=true->uK PZ k=some p->(lV Ux (.map (some bm)) (ng nH k) false).run jI W=.ok (nC #[p.1,p.2]) W):=jH λW h k p A dY=>h.look k A p dY
  have Jp:=a0R;rw[aV];rw[hg]at ay⊢;clear aj ak V af au bz bV U av ax bA hcall bM bU aV;obtain⟨cz,bD⟩:=nT (rC t a m);rw[bD]at az aX bC;clear bD;obtain⟨Y,aA⟩:=nT t.sub.length;have cK:=jH aA;rw[aA]at bB ay az aW⊢;clear aA;obtain⟨aY,aB⟩:=nT t.lab.kind;obtain⟨aZ,aC⟩:=nT t.lab.size;obtain⟨kt,aD⟩:=nT t.lab.tail;have cZ:=jH aB;have df:=jH aC;have dh:=jH aD;rw[aB,aC,aD]at ay az⊢;clear aB aC aD;go_in;go_upto_region 1 with fail;obtain⟨aF,⟨t0,dw,dx,t3⟩,⟨dZ,ed,bN⟩,hsz⟩:=ay.out _ rfl;generalize (w.alloc _).alloc _=w1 at*;have dz:=jH aF;have N:=jH (bZ.below (hg.symm▸aF));have o0:=N.o.c0;have dA:jW (w1.cell? ⟨g,0,none⟩=some (ng nH aY)/\w1.cell? ⟨g,1,none⟩=some (ng nH aZ)/\w1.cell? ⟨g,2,none⟩=some (nk ot Y ct)/\w1.cell? ⟨g,3,none⟩=some (ng nH kt)/\w1.cell? ⟨g+1,2,none⟩=some (nk oi m ci)):=jH ⟨t0,dw,dx,t3,bN⟩;clear ay aF;go_cut [17] (λbv ek=>bv=nA (!cz)/\jW (jS (g+2) w1 ek));case first=>
   rcases az.out with⟨rfl,hcall⟩|⟨rfl,hcall⟩|⟨rfl,hcall⟩|⟨rfl,hcall⟩|⟨rfl,hcall⟩
   .have C:(lV Ux (.map (some bm)) (ng nH 1) false).run jI w1=.ok (nC #[kf1.1,kf1.2]) w1:=J.out w1 N.m 1 kf1 nN rfl
    simp only[kf1,PY]at C;exact Gy
   .have C:(lV Ux (.map (some bm)) (ng nH 2) false).run jI w1=.ok (nC #[kf2.1,kf2.2]) w1:=J.out w1 N.m 2 kf2 nN rfl
    simp only[kf2,PY]at C;exact Gy
   .have C:(lV Ux (.map (some bm)) (ng nH 3) false).run jI w1=.ok (nC #[kf3.1,kf3.2]) w1:=J.out w1 N.m 3 kf3 nN rfl
    simp only[kf3,PY]at C;exact Gy
   .have C:(lV Ux (.map (some bm)) (ng nH 4) false).run jI w1=.ok (nC #[kf4.1,kf4.2]) w1:=J.out w1 N.m 4 kf4 nN rfl
    simp only[kf4,PY]at C;exact Gy
   .have C:(lV Ux (.map (some bm)) (ng nH 5) false).run jI w1=.ok (nC #[kf5.1,kf5.2]) w1:=J.out w1 N.m 5 kf5 nN rfl
    simp only[kf5,PY]at C;exact Gy
  clear t0 dw dx t3 dZ ed o0 az J Jp;case rest=>
  obtain⟨rfl,P7⟩:=hcut;have bE:jW (jS g w wc):=jH (dz.trans (P7.mono nK));have eD:=jH (N.below (hsz.symm▸P7.out));have dB:=(P7.cell (p:=⟨g+1,2,none⟩) (by show g+1<g+2;omega)).trans bN;clear bN;cases cz with
  |false=>
   have aG:jW (R=false):=jH (by rw[aX.out];rfl);go_wp2_with fail;go_returns;exact⟨by rw[aG.out];rfl,bE.out⟩
  |true=>
   have bF:jW (R=sV s t 0):=jH (by rw[aX.out];rfl);have bO:g+2<=wc.heap.size:=kg (mV hsz.symm) P7.size;clear aX;go_wp2_with fail;clear dB;go_loopw [21] (λkv eu=>∃k:Nat,kv=ng nH (k:Int)/\k<=m/\jW (jS (g+2) wc eu)/\jW (sV (s.take k) t 0=true)) (λkv _=>m -(kW kv).toNat);case atStart=>exact⟨0,rfl,nK,jH (jT _ _),jH rfl⟩
   case round=>
    obtain⟨k,rfl,hk,ag,dC⟩:=hrel;have aH:jW (jS g w wr):=jH (bE.trans (ag.mono nK));by_cases c:k<m
    .obtain⟨y,I⟩:∃y,s[k]? =some y:=⟨_,jX (by rw[bY.out];exact c)⟩
     obtain⟨z,Z,bG⟩:=bC.out k trivial c;have aI:jS w.heap.size w wr:=hg.symm▸aH.out;obtain⟨b,off,u,rfl,hlt,_,dD,dE,y2,bP,aJ⟩:=nV.at_ (Shape.nX.below bX aI) I;obtain⟨ou,cu,rfl,_,_⟩:=nV.slice bP;have aK:oL wr (nk ot Y ct) t.sub:=Shape.nX.below bB aI;have aL:t.sub[if t.lab.kind=4 then 0 else k]? =some z:=by
      unfold rP at Z;by_cases dF:t.lab.kind=4;.rw[if_pos dF]at Z⊢;exact Z
      .rw[if_neg dF]at Z⊢;exact Z
     obtain⟨bt,aa,eF,dG,ae,z0,dH,dI,z3,aM,bQ⟩:=oL.at_ aK aL;obtain⟨bg,zc,rfl,_,_⟩:=aM.slice;subst dG;obtain⟨bR,aN⟩:=nT z.sub.length;obtain⟨bq,aO⟩:=nT y.sub.length;have aP:(if t.lab.kind=4 then 0 else k)<Y:=by rw[<-cK.out];exact(ll.1 aL).1
     have dJ:jW (∀W,jS wr.heap.size wr W->jV jI 198 #[nC #[ng nH aY,ng nH aZ,nk (some ⟨bt,aa,none⟩) Y ct,ng nH kt],ng nH (k:Nat)] W λe w'=>e=nE (nC #[ng nH z.lab.kind,ng nH z.lab.size,nk bg bR zc,ng nH z.lab.tail])/\jS W.heap.size W w'):=jH λW Q=>by
      have h:=KF t k W (nk (some ⟨bt,aa,none⟩) Y ct) (Shape.nX.below aK Q) z bg bR zc ⟨bt,aa,⟨Y,ct,rfl,aP,nK⟩,kG ae Q.size,(Q.cell (p:=⟨bt,_,none⟩) ae).trans z0,(Q.cell (p:=⟨bt,_,none⟩) ae).trans dH,(Q.cell (p:=⟨bt,_,none⟩) ae).trans (aN▸dI),(Q.cell (p:=⟨bt,_,none⟩) ae).trans z3⟩;rw[cZ.out,df.out,dh.out]at h;exact h
     have ah:=bZ.below aI;have dK:jW (∀W,jS wr.heap.size wr W->jV jI 197 #[nC #[ng nH z.lab.kind,ng nH z.lab.size,nk bg bR zc,ng nH z.lab.tail],nC #[ny (txt y.lab),nA y.lab.list,nk ou bq cu],nz (some ⟨bo,0,none⟩),nz (some ⟨bf,0,none⟩)] W λe w'=>e=nE (nA (uw y z))/\jS W.heap.size W w'):=jH λW Q=>by
      have h:=dX.out y (kT I) z W (nk bg z.sub.length zc) (nk ou y.sub.length cu) bo bf bm (Shape.nX.below aM Q) (Shape.nX.below bP Q) (bK z bG) (bL y (kT I)) (bJ k y I) aJ (ah.below Q);rw[aN,aO]at h;exact h
     rw[aO]at y2;have dL:jW (sV (s.take (k+1)) t 0=uw y z):=jH (by rw[P6 I Z,dC.out];rfl);have dM:jW (uw y z=false->R=false):=jH λh=>by rw[bF.out];exact EH I (by rw[Nat.zero_add];exact Z) h
     have bH:jW (wr.cell? ⟨bf,0,none⟩=some (.func (.func 197) #[] #[nz (some ⟨bo,0,none⟩),nz (some ⟨bf,0,none⟩)])/\bf<wr.heap.size):=jH ⟨ah.f.cell 0,ah.f.lt⟩;have dN:jW (g+2<=wr.heap.size/\wr.cell? ⟨g,0,none⟩=some (ng nH aY)/\wr.cell? ⟨g,1,none⟩=some (ng nH aZ)/\wr.cell? ⟨g,2,none⟩=some (nk (some ⟨bt,aa,none⟩) Y ct)/\wr.cell? ⟨g,3,none⟩=some (ng nH kt)):=jH (by
      have q:∀i,wr.cell? ⟨g,i,none⟩=w1.cell? ⟨g,i,none⟩:=λi=>(ag.cell (p:=⟨g,i,none⟩) (by show g<g+2;omega)).trans (P7.cell (p:=⟨g,i,none⟩) (by show g<g+2;omega))
      obtain⟨a0,bu,a2,a3,_⟩:=dA.out;exact⟨kg bO ag.size,(q 0).trans a0,(q 1).trans bu,(q 2).trans a2,(q 3).trans a3⟩)
     generalize uw y z=eB at*;obtain⟨bS,aQ⟩:=nT y.lab.list;obtain⟨bT,aR⟩:=nT (txt y.lab);obtain⟨eG,aS⟩:=nT z.lab.kind;obtain⟨zs,aT⟩:=nT z.lab.size;obtain⟨eH,aU⟩:=nT z.lab.tail;rw[aQ,aR,aS,aT,aU]at dK;rw[aS,aT,aU]at dJ;rw[aQ]at dE;rw[aR]at dD;have dO:jW (∀W,wr.alloc (nG #[ny bT,nA bS,nk ou bq cu] IT)=W->jS wr.heap.size wr W/\nO W wr.heap.size #[ny bT,nA bS,nk ou bq cu] IT):=jH λW h=>by subst h;exact⟨(jT _ _).alloc (jL _) _,nO.new _ _ _⟩
     clear aQ aR aS aT aU aN aO z0 dH dI z3 aM bQ aJ bP aK ah Z aL I aP bG;go_upto_region 6 with fail;obtain⟨E,O⟩:=dO.out _ rfl;generalize wr.alloc _=w5 at*;obtain⟨dP,a0,bu,a2,a3⟩:=dN.out;have ai:∀(x:sM w5) b i,b<wr.heap.size->x.at_.cell? ⟨b,i,none⟩=wr.cell? ⟨b,i,none⟩:=λx b i h=>(x.is.cell (p:=⟨b,i,none⟩) (kG h E.size)).trans (E.cell (p:=⟨b,i,none⟩) h)
     have dQ:∀x:sM w5,x.at_.cell? ⟨bf,0,none⟩=some (.func (.func 197) #[] #[nz (some ⟨bo,0,none⟩),nz (some ⟨bf,0,none⟩)]):=λx=>(ai x bf 0 bH.2).trans bH.1
     have b0:∀x:sM w5,x.at_.cell? ⟨g,0,none⟩=some (ng nH aY):=λx=>(ai x g 0 nK).trans a0
     have b1:∀x:sM w5,x.at_.cell? ⟨g,1,none⟩=some (ng nH aZ):=λx=>(ai x g 1 nK).trans bu
     have dR:∀x:sM w5,x.at_.cell? ⟨g,2,none⟩=some (nk (some ⟨bt,aa,none⟩) Y ct):=λx=>(ai x g 2 nK).trans a2
     have b3:∀x:sM w5,x.at_.cell? ⟨g,3,none⟩=some (ng nH kt):=λx=>(ai x g 3 nK).trans a3
     have dS:∀x:sM w5,x.at_.cell? ⟨wr.heap.size,0,none⟩=some (ny bT):=λx=>(x.is.cell (p:=⟨wr.heap.size,0,none⟩) O.lt).trans (O.cell 0)
     have e1:∀x:sM w5,x.at_.cell? ⟨wr.heap.size,1,none⟩=some (nA bS):=λx=>(x.is.cell (p:=⟨wr.heap.size,1,none⟩) O.lt).trans (O.cell 1)
     have e2:∀x:sM w5,x.at_.cell? ⟨wr.heap.size,2,none⟩=some (nk ou bq cu):=λx=>(x.is.cell (p:=⟨wr.heap.size,2,none⟩) O.lt).trans (O.cell 2)
     have dU:=jH (λx:sM w5=>dJ.out x.at_ (E.trans (x.is.mono E.size)));have dV:=jH (λx:sM w5=>dK.out x.at_ (E.trans (x.is.mono E.size)));have bI:jW (∀x:sM w5,jS (g+2) wc x.at_/\jS g w x.at_):=jH λx=>
      have A:=E.trans (x.is.mono E.size)
      ⟨ag.trans (A.mono dP),aH.trans (A.mono nK)⟩
     clear ai E O a0 bu a2 a3 dD dE y2 hlt;refine oC nM nM ?_;repeat(go_big_quiet_step (first|(go_at_call 198;exact Calls.after (dU _))|(go_at_call 197;exact Calls.after (dV _))))
     refine mJ ?_;intro x;cases eB with
     |true=>
      clear dQ b0 b1 dR b3 dS e1 e2;go_wp2_with fail;exact⟨⟨k+1,by go_num,nK,jH (bI x).1,dL⟩,by simp[kW];omega⟩
     |false=>
      have aG:=jH (dM rfl);clear dQ b0 b1 dR b3 dS e1 e2;go_wp2_with fail;go_returns;exact⟨by rw[aG.out];rfl,(bI x).2⟩
    .obtain rfl:k=m:=nK
     have dW:jW (R=true):=jH (by
      have A:=dC.out;rw[List.take_of_length_le (mV bY.out)]at A;rw[bF.out,A])
     go_wp2_with fail;go_returns;exact⟨by rw[dW.out];rfl,aH.out⟩
def ru(t:nL TL)(x:nL IL):Int:=if pX t=true/\qZ x=true then if uw x t=true then 0 else 12 else 1
theorem CK{t:nL TL}(h:pX t=true):t.all oG=true:=by
 unfold pX at h;simp only[j3]at h;exact h.2
theorem BO{x:nL IL}(h:qZ x=true):x.all qb=true/\x.count<=100000:=by
 unfold qZ at h;simp only[j3,decide_eq_true_eq]at h;exact⟨h.1.1,nK⟩
theorem D6(h:p:=by
 go_wp2_with fail;go_returns;exact⟨by rw[HE.out];rfl,HB2.out⟩):p:=h
theorem BP(t:nL TL)(x:nL IL)(w:jJ)(tv iv:jP)(A:oL w tv t.sub)(C:pM w iv x.sub)(ak:x.lab.text.length<=j5)(aM:qo w):
  jV jI 157 #[nC #[ng nH t.lab.kind,ng nH t.lab.size,tv,ng nH t.lab.tail],nC #[ny (txt x.lab),nA x.lab.list,iv]] w λe w'=>e=nE (ng nH (ru t x))/\jS w.heap.size w w':=by
 obtain⟨ot,ct,rfl,_,_⟩:=A.slice;obtain⟨oi,ci,rfl,_,_⟩:=nV.slice C;have bJ:∀(fn:Fn)(first cap:Array jP)(w:jJ),(mG fn first cap).run jI w=.ok (.func fn first cap) w:=λ_ _ _ _=>rfl
 obtain⟨R,aj⟩:=nT (ru t x);have aW:=jH aj;rw[aj];obtain⟨g,hg⟩:=nT w.heap.size;have bK:=jH A;have bL:=jH C;have aS:jW (∀W,jS w.heap.size w W->qo W):=jH λW h=>aM.below h aM.lt
 have aN:=jH (λW (h:jS w.heap.size w W)=>Cz t W (nk ot t.sub.length ct) (Shape.nX.below A h) (aS W h));have aO:=jH (λW (h:jS w.heap.size w W)=>Gq x W (nk oi x.sub.length ci) (Shape.nX.below C h))
 have O:jW (pX t=true->qZ x=true->∀W bo bf bm,jS w.heap.size w W->FtE bo bf bm W->jV jI 197 #[nC #[ng nH t.lab.kind,ng nH t.lab.size,nk ot t.sub.length ct,ng nH t.lab.tail],nC #[ny (txt x.lab),nA x.lab.list,nk oi x.sub.length ci],nz (some ⟨bo,0,none⟩),nz (some ⟨bf,0,none⟩)] W
   λe w'=>e=nE (nA (uw x t))/\jS W.heap.size W w'):=jH λaX aT W bo bf bm hb aY=>
  Ng x t W _ _ bo bf bm (Shape.nX.below A hb) (Shape.nX.below C hb) (CK aX) (BO aT).1 (BO aT).2 ak aY
 have N:=jH (BN (w:=w) t.lab.kind t.lab.size t.lab.tail (nk ot t.sub.length ct) (txt x.lab) x.lab.list (nk oi x.sub.length ci));obtain⟨aZ,au⟩:=nT t.sub.length;obtain⟨bg,av⟩:=nT x.sub.length;rw[au]at N aN O⊢;rw[av]at N aO O⊢;obtain⟨bq,ax⟩:=nT t.lab.kind;obtain⟨ts,ay⟩:=nT t.lab.size;obtain⟨tt,az⟩:=nT t.lab.tail;obtain⟨bu,aA⟩:=nT (txt x.lab);obtain⟨bz,Q⟩:=nT x.lab.list;simp only[ax,ay,az,aA,Q]at N aN aO O⊢;have E:jW (R=if pX t=true/\qZ x=true then if uw x t=true then 0 else 12 else 1):=jH aj.symm;generalize pX t=bA at*;generalize qZ x=bB at*;generalize uw x t=aU at*;clear A C aM ak au av ax ay az aA Q aj aW;rw[hg]at N⊢;go_in;go_upto_region 1 with fail;obtain⟨aB,⟨t0,U,V,t3⟩,⟨Y,Z,aa⟩,hsz⟩:=N.out _ rfl;generalize (w.alloc _).alloc _=w1 at*;have aC:=jH aB
 have aP:jW (∀W,jS (g+2) w1 W->(W.cell? ⟨g,0,none⟩=some (ng nH bq)/\W.cell? ⟨g,1,none⟩=some (ng nH ts)/\W.cell? ⟨g,2,none⟩=some (nk ot aZ ct)/\W.cell? ⟨g,3,none⟩=some (ng nH tt))/\
   (W.cell? ⟨g+1,0,none⟩=some (ny bu)/\W.cell? ⟨g+1,1,none⟩=some (nA bz)/\W.cell? ⟨g+1,2,none⟩=some (nk oi bg ci))):=jH λW h=>
  have q:∀b i,b<g+2->W.cell? ⟨b,i,none⟩=w1.cell? ⟨b,i,none⟩:=λb i hb=>h.cell (p:=⟨b,i,none⟩) hb
  ⟨⟨(q g 0 nK).trans t0,(q g 1 nK).trans U,(q g 2 nK).trans V,(q g 3 nK).trans t3⟩,(q (g+1) 0 nK).trans Y,(q (g+1) 1 nK).trans Z,(q (g+1) 2 nK).trans aa⟩
 clear N aB;go_wp2_with fail;refine(aN _ (hg.symm▸aC.out)).mono ?_;rintro e w2 ⟨rfl,ae⟩;have I:jW (jS (g+2) w1 w2):=jH (hsz▸ae);have HB2:jW (jS g w w2):=jH (aC.trans (ae.mono nK));clear ae t0 U V t3 Y Z aa;obtain⟨⟨t0,U,V,t3⟩,Y,Z,aa⟩:=aP.out _ I.out;cases bA with
 |false=>
  have HE:jW (R=1):=jH (by rw[E.out];simp);exact D6
 |true=>
  go_wp2_with fail;refine(aO _ (hg.symm▸HB2.out)).mono ?_;rintro e w3 ⟨rfl,af⟩;have aD:jW (jS (g+2) w1 w3):=jH (I.trans (af.mono (by have:=I.size;omega)));have aF:jW (jS g w w3):=jH (HB2.trans (af.mono (by have:=I.size;omega)));clear af t0 U V t3 Y Z aa;cases bB with
  |false=>
   have HE:jW (R=1):=jH (by rw[E.out];simp);go_wp2_with fail;go_returns;exact⟨by rw[HE.out];rfl,aF.out⟩
  |true=>
   have HE:jW (R=if aU=true then 0 else 12):=jH (by rw[E.out];simp);have aQ:=jH (Nc w3);obtain⟨bm,Uz⟩:=nT w3.heap.size;rw[Uz]at aQ;have bM:g+2<=bm:=by rw[<-Uz];have:=aD.size;omega
   clear E;go_wp2_with fail;refine aQ.mono ?_;rintro e w4 ⟨rfl,aG,J⟩;have aH:jW (∀b4 aR ag,w4.heap.size=b4->w4.alloc (nG #[.map (some bm)] Ux)=aR->aR.alloc (nG #[.func (.func 197) #[] #[nz (some ⟨b4,0,none⟩),nz (some ⟨b4+1,0,none⟩)]] 108)=ag->FtE b4 (b4+1) bm ag/\jS (g+2) w1 ag/\jS g w ag):=jH λb4 aR ag bC bD bE=>by
    subst bC bD bE;have bF:=(jT w4.heap.size w4).alloc (jL _) (nG #[.map (some bm)] Ux);have a2:=bF.alloc nR (nG #[.func (.func 197) #[] #[nz (some ⟨w4.heap.size,0,none⟩),nz (some ⟨w4.heap.size+1,0,none⟩)]] 108);have n1:=(nO.new w4 #[.map (some bm)] Ux).alloc (nG #[.func (.func 197) #[] #[nz (some ⟨w4.heap.size,0,none⟩),nz (some ⟨w4.heap.size+1,0,none⟩)]] 108);have n2:=nO.new (w4.alloc (nG #[.map (some bm)] Ux)) #[.func (.func 197) #[] #[nz (some ⟨w4.heap.size,0,none⟩),nz (some ⟨w4.heap.size+1,0,none⟩)]] 108;have bG:(w4.alloc (nG #[.map (some bm)] Ux)).heap.size=w4.heap.size+1:=nR;rw[bG]at n2;have bN:bm<=w4.heap.size:=by rw[<-Uz];exact J.size
    exact⟨⟨n1,aG.below a2,n2⟩,(aD.trans (J.mono nK)).trans (a2.mono nK),(aF.trans (J.mono nK)).trans (a2.mono nK)⟩
   clear aG J aQ;go_upto_region 6 with fail;obtain⟨ah,aI,ai⟩:=aH.out w4.heap.size _ _ rfl rfl rfl;generalize (w4.alloc _).alloc _=bH at*;clear aH;have bO:=ah.f.c0;obtain⟨⟨t0,U,V,t3⟩,Y,Z,aa⟩:=aP.out _ aI;have aV:=jH (O trivial trivial bH _ _ _ (hg.symm▸ai) ah);have aJ:=jH ai;clear aP O ah aI ai;go_wp2_with fail;refine aV.mono ?_;rintro e bI ⟨rfl,aK⟩;have aL:jW (jS g w bI):=jH (aJ.trans (aK.mono (by have:=aJ.size;omega)));clear aK aV;cases aU with
   |false=>
    go_wp2_with fail;go_returns;exact⟨by rw[HE.out];rfl,aL.out⟩
   |true=>
    go_wp2_with fail;go_returns;exact⟨by rw[HE.out];rfl,aL.out⟩
end
section
open Go.RowKit
def itC(x:Option (nL IL))(v:jP):Array jP:=match x with
 |none=>#[ny ⟨#[]⟩,nA false,nk none 0 0]
 |some y=>#[ny (txt y.lab),nA y.lab.list,v]
def AQ(R:Except Nat (nL IL))(w:jJ)(e:Ending)(w':jJ):Prop:=match R with
 | .error er=>e=nE (nD #[nC #[ny ⟨#[]⟩,nA false,nk none 0 0],ng nH (er:Nat)])/\jS w.heap.size w w'
 | .ok x=>∃v,e=nE (nD #[nC #[ny (txt x.lab),nA x.lab.list,v],ng nH 0])/\nV w' (λc=>w.heap.size<=c) v x.sub/\jS w.heap.size w w'
abbrev FnG:ko:=121
structure Gz(g:Nat)(w:jJ)(t:TL)(tv:jP)(s:ByteArray)(deep most:Int)(x:Option (nL IL))(W:jJ):Prop where
 t:nO W g #[ng nH t.kind,ng nH t.size,tv,ng nH t.tail] 63
 s:nO W (g+1) #[ny s] 9
 d:nO W (g+2) #[ng nH deep] 3
 m:nO W (g+3) #[ng nH most] 3
 r:nO W (g+4) #[ny ⟨#[]⟩,nA false,nk none 0 0] IT
 o:∃v,nO W (g+5) (itC x v) IT/\(∀y,x=some y->nV W (λc=>g+7<=c) v y.sub)
 f:nO W (g+6) #[.func (.func 162) #[] #[nz (some ⟨g,0,none⟩)],
  .func (.func 164) #[] #[nz (some ⟨g+1,0,none⟩),nz (some ⟨g+2,0,none⟩),nz (some ⟨g+3,0,none⟩),nz (some ⟨g+5,0,none⟩)],
  .func (.func 166) #[] #[nz (some ⟨g,0,none⟩),nz (some ⟨g+5,0,none⟩)]] FnG
 b:jS g w W
section
variable {g:Nat}{w W W':jJ}{t:TL}{tv:jP}{s:ByteArray}{deep most:Int}{x:Option (nL IL)}
theorem Gz.below(h:Gz g w t tv s deep most x W)(hb:jS W.heap.size W W'):Gz g w t tv s deep most x W':=
 ⟨Below.blk hb h.t h.t.lt,Below.blk hb h.s h.s.lt,Below.blk hb h.d h.d.lt,Below.blk hb h.m h.m.lt,Below.blk hb h.r h.r.lt, (let ⟨v,h1,h2⟩:=h.o;⟨v,Below.blk hb h1 h1.lt,λy A=>Shape.nX.below (h2 y A) hb⟩),Below.blk hb h.f h.f.lt,h.b.trans (hb.mono (by have:=h.t.lt;omega))⟩
end
theorem RV(h:p:=by
 go_wp2_with fail;refine CF.mono ?_;rintro e w2 ⟨rfl,hb⟩;have H2:=jH (H.below hb);clear hb;go_wp2_with fail;go_returns;exact⟨rfl,H2.out⟩):p:=h
theorem a3y(t:nL TL)(w:jJ)(tv:jP)(A:oL w tv t.sub)(C:qo w)(s:ByteArray)(deep most:Int)(x:Option (nL IL))(W:jJ)(h:Gz w.heap.size w t.lab tv s deep most x W):
  jV jI 162 #[nz (some ⟨w.heap.size,0,none⟩)] W λe w'=>e=nE (ng nH (if pX t=true then 0 else 1))/\Gz w.heap.size w t.lab tv s deep most x w':=by
 have CF:=jH (Cz t W tv (Shape.nX.below A h.b) (C.below h.b C.lt));have H:=jH h;obtain⟨t0,E,I,t3⟩:=h.t.a4;clear h A C;generalize pX t=R at*;generalize w.heap.size=g at*;go_in;cases R with
 |false=>
  exact RV
 |true=>
  exact RV
def got(R:Except Nat (nL IL)):Option (nL IL):=match R with
 | .error _=>none
 | .ok x=>some x
def EX(R:Except Nat (nL IL)):Int:=match R with
 | .error er=>(er:Nat)
 | .ok _=>0
theorem RX{g:Nat}{w W:jJ}{t:TL}{tv:jP}{s:ByteArray}{deep most:Int}{C:Option (nL IL)}(h:Gz g w t tv s deep most C W)(x:Option (nL IL))(v:jP)(I:∀y,x=some y->nV W (λc=>g+7<=c) v y.sub)(a b c:jP)(he:itC x v=#[a,b,c]):
  Gz g w t tv s deep most x (((W.setCell ⟨g+5,0,none⟩ a).setCell ⟨g+5,1,none⟩ b).setCell ⟨g+5,2,none⟩ c):=by
 obtain⟨v0,E,O⟩:=h.o;have o:∀{n:Nat}{cs:Array jP}{t:ko},nO W n cs t->n≠g+5->nO (((W.setCell ⟨g+5,0,none⟩ a).setCell ⟨g+5,1,none⟩ b).setCell ⟨g+5,2,none⟩ c) n cs t:=λh hn=>
  ((h.setOther (a:=⟨g+5,0,none⟩) hn _).setOther (a:=⟨g+5,1,none⟩) hn _).setOther (a:=⟨g+5,2,none⟩) hn _
 have hk:∃a0 b0 c0,itC C v0=#[a0,b0,c0]:=by cases C<;>exact⟨_,_,_,rfl⟩
 obtain⟨a0,b0,c0,hk⟩:=hk;rw[hk]at E
 refine⟨o h.t nK,o h.s nK,o h.d nK,o h.m nK,o h.r nK,⟨v,?_,λy J=> ?_⟩,o h.f nK,
  ((h.b.setCell (p:=⟨g+5,0,none⟩) nR _).setCell (p:=⟨g+5,1,none⟩) nR _).setCell (p:=⟨g+5,2,none⟩) nR _⟩
 .rw[he];exact((E.set 0 a).set 1 b).set 2 c
 .exact Shape.nX.keep (I y J) (by simp[kC]) (λA _ hc=>hc) λA _ hc=>by
   have N:g+7<=A:=hc;simp[kC,lL,show g+5≠A by omega,show¬g+5=A by omega]
theorem a3z(t:nL TL)(w:jJ)(tv:jP)(s:ByteArray)(deep most:Int)(R:Except Nat (nL IL))(O:∀W,jV jI 165 #[ny s,ng nH deep,ng nH most] W (AQ R W))(W:jJ)(h:Gz w.heap.size w t.lab tv s deep most none W):
  jV jI 164 #[nz (some ⟨w.heap.size+1,0,none⟩),nz (some ⟨w.heap.size+2,0,none⟩),nz (some ⟨w.heap.size+3,0,none⟩),nz (some ⟨w.heap.size+5,0,none⟩)] W
   λe w'=>e=nE (ng nH (EX R))/\Gz w.heap.size w t.lab tv s deep most (got R) w':=by
 have A:=jH (O W);have H:=jH h;have aa:=h.s.c0;have ae:=h.d.c0;have af:=h.m.c0;clear h O;generalize w.heap.size=g at*;cases R with
 |error er=>
  unfold AQ at A;dsimp only at A;unfold EX got;dsimp only;go_in;go_wp2_with fail;refine A.mono ?_;rintro e w2 ⟨rfl,hb⟩;have C:=jH (H.below hb);obtain⟨v0,hB,_⟩:=C.o;obtain⟨Q,U,V⟩:=hB.f3;have p0:=hB.cell 0;have E:=hB.cell 1;have I:=hB.cell 2;simp only[itC,jO,jN,jM]at p0 E I;clear hB hb;go_wp2_with fail;go_returns;exact⟨rfl,RX C none (nk none 0 0) (λy J=>by cases J) _ _ _ rfl⟩
 |ok x=>
  unfold AQ at A;dsimp only at A;unfold EX got;dsimp only;go_in;go_wp2_with fail;refine A.mono ?_;rintro e w2 ⟨v,rfl,N,hb⟩;obtain⟨ov,cv,rfl,_,_⟩:=nV.slice N;have C:=jH (H.below hb);have Y:jW (nV w2 (λc=>g+7<=c) (nk ov x.sub.length cv) x.sub):=jH (Shape.nX.keep N (jL _) (λc _ hc=>by have:=H.f.lt;have Z:W.heap.size<=c:=hc;show g+7<=c;omega) λc _ _=>rfl);obtain⟨v0,hB,_⟩:=C.o;obtain⟨Q,U,V⟩:=hB.f3;have p0:=hB.cell 0;have E:=hB.cell 1;have I:=hB.cell 2;simp only[itC,jO,jN,jM]at p0 E I;clear hB hb N;go_wp2_with fail;go_returns;exact⟨rfl,RX C (some x) _ (λy J=>by cases J;exact Y) _ _ _ rfl⟩
theorem a3A(t:nL TL)(x:nL IL)(w:jJ)(tv:jP)(A:oL w tv t.sub)(C:x.lab.text.length<=j5)(J:qo w)(s:ByteArray)(deep most:Int)(W:jJ)(h:Gz w.heap.size w t.lab tv s deep most (some x) W):
  jV jI 166 #[nz (some ⟨w.heap.size,0,none⟩),nz (some ⟨w.heap.size+5,0,none⟩)] W λe w'=>e=nE (ng nH (ru t x))/\Gz w.heap.size w t.lab tv s deep most (some x) w':=by
 obtain⟨v,hB,N⟩:=h.o;have I:=N x rfl;have O:=jH (BP t x W tv v (Shape.nX.below A h.b) (Shape.nX.keep I (jL _) (λc _ _=>trivial) λc _ _=>rfl) C (J.below h.b J.lt));have H:=jH h;have t0:=h.t.cell 0;have Q:=h.t.cell 1;have U:=h.t.cell 2;have t3:=h.t.cell 3;have V:=hB.cell 0;have Y:=hB.cell 1;have Z:=hB.cell 2;simp only[itC,jO,jN,jM]at t0 Q U t3 V Y Z;clear h A C J N I hB;generalize ru t x=E at*;generalize w.heap.size=g at*;go_in;go_wp2_with fail;refine O.mono ?_;rintro e w2 ⟨rfl,hb⟩;have aa:=jH (H.below hb);clear hb;go_wp2_with fail;go_returns;exact⟨rfl,aa.out⟩
theorem a3B{w w1 w2 w3 w4 w5 A W:jJ}{t:nL TL}{tv:jP}{s:ByteArray}{deep most:Int}(e1:w.alloc (nG #[ng nH t.lab.kind,ng nH t.lab.size,tv,ng nH t.lab.tail] 63)=w1)(e2:w1.alloc (nG #[ny s] 9)=w2)(e3:w2.alloc (nG #[ng nH deep] 3)=w3)(e4:w3.alloc (nG #[ng nH most] 3)=w4)(e5:w4.alloc (nG #[ny ⟨#[]⟩,nA false,nk none 0 0] IT)=w5)(C:w5.alloc (nG #[ny ⟨#[]⟩,nA false,nk none 0 0] IT)=A)(U:A.alloc (nG #[.func (.func 162) #[] #[nz (some ⟨w.heap.size,0,none⟩)],
  .func (.func 164) #[] #[nz (some ⟨w.heap.size+1,0,none⟩),nz (some ⟨w.heap.size+2,0,none⟩),nz (some ⟨w.heap.size+3,0,none⟩),nz (some ⟨w.heap.size+5,0,none⟩)],
  .func (.func 166) #[] #[nz (some ⟨w.heap.size,0,none⟩),nz (some ⟨w.heap.size+5,0,none⟩)]] FnG)=W):Gz w.heap.size w t.lab tv s deep most none W/\A.heap.size=w.heap.size+6:=by
 have V:w1.heap.size=w.heap.size+1:=by rw[<-e1];simp
 have Y:w2.heap.size=w.heap.size+2:=by rw[<-e2];simp[V]
 have z3:w3.heap.size=w.heap.size+3:=by rw[<-e3];simp[Y]
 have z4:w4.heap.size=w.heap.size+4:=by rw[<-e4];simp[z3]
 have z5:w5.heap.size=w.heap.size+5:=by rw[<-e5];simp[z4]
 have Z:A.heap.size=w.heap.size+6:=by rw[<-C];simp[z5]
 have b1:jS w.heap.size w w1:=by rw[<-e1];exact(jT _ _).alloc (jL _) _
 have af:jS w1.heap.size w1 w2:=by rw[<-e2];exact(jT _ _).alloc (jL _) _
 have b3:jS w2.heap.size w2 w3:=by rw[<-e3];exact(jT _ _).alloc (jL _) _
 have b4:jS w3.heap.size w3 w4:=by rw[<-e4];exact(jT _ _).alloc (jL _) _
 have ag:jS w4.heap.size w4 w5:=by rw[<-e5];exact(jT _ _).alloc (jL _) _
 have b6:jS w5.heap.size w5 A:=by rw[<-C];exact(jT _ _).alloc (jL _) _
 have aa:jS A.heap.size A W:=by rw[<-U];exact(jT _ _).alloc (jL _) _
 have E:=nO.new w #[ng nH t.lab.kind,ng nH t.lab.size,tv,ng nH t.lab.tail] 63;have I:=nO.new w1 #[ny s] 9;have J:=nO.new w2 #[ng nH deep] 3;have N:=nO.new w3 #[ng nH most] 3;have O:=nO.new w4 #[ny ⟨#[]⟩,nA false,nk none 0 0] IT;have Q:=nO.new w5 #[ny ⟨#[]⟩,nA false,nk none 0 0] IT
 have ae:=nO.new A #[.func (.func 162) #[] #[nz (some ⟨w.heap.size,0,none⟩)],
  .func (.func 164) #[] #[nz (some ⟨w.heap.size+1,0,none⟩),nz (some ⟨w.heap.size+2,0,none⟩),nz (some ⟨w.heap.size+3,0,none⟩),nz (some ⟨w.heap.size+5,0,none⟩)],
  .func (.func 166) #[] #[nz (some ⟨w.heap.size,0,none⟩),nz (some ⟨w.heap.size+5,0,none⟩)]] FnG
 rw[e1]at E;rw[e2,V]at I;rw[e3,Y]at J;rw[e4,z3]at N;rw[e5,z4]at O;rw[C,z5]at Q;rw[U,Z]at ae;have c6:jS w5.heap.size w5 W:=b6.trans (aa.mono nK);have c5:jS w4.heap.size w4 W:=ag.trans (c6.mono nK);have c4:jS w3.heap.size w3 W:=b4.trans (c5.mono nK);have c3:jS w2.heap.size w2 W:=b3.trans (c4.mono nK);have c2:jS w1.heap.size w1 W:=af.trans (c3.mono nK);exact⟨⟨Below.blk c2 E E.lt,Below.blk c3 I I.lt,Below.blk c4 J J.lt,Below.blk c5 N N.lt,Below.blk c6 O O.lt,⟨nk none 0 0,Below.blk aa Q Q.lt,λy ah=>by cases ah⟩,ae,b1.trans (c2.mono nK)⟩,Z⟩
def pI(w:jJ)(g:Nat)(a b c:jP):jJ:=((w.setCell ⟨g,0,none⟩ a).setCell ⟨g,1,none⟩ b).setCell ⟨g,2,none⟩ c
theorem p8(w:jJ)(g:Nat)(a b c:jP):((w.setCell ⟨g,0,none⟩ a).setCell ⟨g,1,none⟩ b).setCell ⟨g,2,none⟩ c=pI w g a b c:=rfl
theorem RY{g:Nat}{w W:jJ}{t:TL}{tv:jP}{s:ByteArray}{deep most:Int}{x:Option (nL IL)}(h:Gz g w t tv s deep most x W)(a b c:jP):
  nO (pI W (g+4) a b c) (g+4) #[a,b,c] IT/\jS g w (pI W (g+4) a b c)/\∀v (y:nL IL),nV W (λc=>g+7<=c) v y.sub->nV (pI W (g+4) a b c) (λc=>g<=c) v y.sub:=by
 refine⟨((h.r.set 0 a).set 1 b).set 2 c,((h.b.setCell (p:=⟨g+4,0,none⟩) nR _).setCell (p:=⟨g+4,1,none⟩) nR _).setCell (p:=⟨g+4,2,none⟩) nR _,λv y E=> ?_⟩;exact Shape.nX.keep E (by simp[pI,kC]) (λA _ hc=>by have C:g+7<=A:=hc;show g<=A;omega) λA _ hc=>by
   have C:g+7<=A:=hc;simp[pI,kC,lL,show g+4≠A by omega,show¬g+4=A by omega]
def Bb(t:nL TL)(R:Except Nat (nL IL)):Except Nat (nL IL):=if pX t=true then match R with
 | .error er=> .error er
 | .ok x=>if ru t x=0 then .ok x else .error (ru t x).toNat
 else .error 1
def a0S(t:nL TL)(R:Except Nat (nL IL)):Int:=match R with
 | .error _=>0
 | .ok x=>ru t x
theorem CQ(t:nL TL)(x:nL IL):0<=ru t x:=by
 unfold ru;split;.split<;>omega
 .omega
theorem Nh(t:nL TL)(R:Except Nat (nL IL))(J:∀er,R=.error er->1<=er)(E:Int)(A:E=(if(if pX t=true then(0:Int)else 1)≠0 then(if pX t=true then 0 else 1)else if EX R≠0 then EX R else a0S t R)):
  (∃er:Nat,E=er/\E≠0/\Bb t R=.error er)\/(∃x,E=0/\R=.ok x/\Bb t R=.ok x/\(if(if pX t=true then(0:Int)else 1)≠0 then 1 else if EX R≠0 then 2 else 3)=3):=by
 unfold Bb;by_cases I:pX t=true
 .simp only[I,if_true]at A⊢
  rw[if_neg nN]at A;cases R with
  |error er=>
   have O:=J er rfl;have C:EX (.error er:Except Nat (nL IL))=(er:Int):=rfl;rw[C,if_pos nK]at A;exact .inl ⟨er,A,nK,rfl⟩
  |ok x=>
   have C:EX (.ok x:Except Nat (nL IL))=0:=rfl;have N:a0S t (.ok x)=ru t x:=rfl;have Q:=CQ t x;rw[C,N,if_neg nN]at A;by_cases h0:ru t x=0
   .refine .inr ⟨x,nK,rfl,?_,?_⟩
    .simp only[h0,if_true]
    .rw[C];rfl
   .refine .inl ⟨(ru t x).toNat,nK,nK,?_⟩
    simp only[h0,if_false]
 .simp only[I]at A⊢
  exact .inl ⟨1,by rw[A];rfl,by rw[A];simp,rfl⟩
theorem Xi(t:nL TL)(R:Except Nat (nL IL))(aa:∀er,R=.error er->1<=er)(w:jJ)(tv:jP)(J:oL w tv t.sub)(Y:∀x,R=.ok x->x.lab.text.length<=j5)(ae:qo w)(s:ByteArray)(deep most:Int)(au:∀W,jV jI 165 #[ny s,ng nH deep,ng nH most] W (AQ R W)):
  jV jI 117 #[nC #[ng nH t.lab.kind,ng nH t.lab.size,tv,ng nH t.lab.tail],ny s,ng nH deep,ng nH most] w (AQ (Bb t R) w):=by
 have aR:∀(fn:Fn)(first cap:Array jP)(w:jJ),(mG fn first cap).run jI w=.ok (.func fn first cap) w:=λ_ _ _ _=>rfl
 have av:jW (∀I W,((((((w.alloc (nG #[ng nH t.lab.kind,ng nH t.lab.size,tv,ng nH t.lab.tail] 63)).alloc (nG #[ny s] 9)).alloc (nG #[ng nH deep] 3)).alloc (nG #[ng nH most] 3)).alloc (nG #[ny ⟨#[]⟩,nA false,nk none 0 0] IT)).alloc (nG #[ny ⟨#[]⟩,nA false,nk none 0 0] IT))=I->I.alloc (nG #[.func (.func 162) #[] #[nz (some ⟨w.heap.size,0,none⟩)],
  .func (.func 164) #[] #[nz (some ⟨w.heap.size+1,0,none⟩),nz (some ⟨w.heap.size+2,0,none⟩),nz (some ⟨w.heap.size+3,0,none⟩),nz (some ⟨w.heap.size+5,0,none⟩)],
  .func (.func 166) #[] #[nz (some ⟨w.heap.size,0,none⟩),nz (some ⟨w.heap.size+5,0,none⟩)]] FnG)=W->I.heap.size=w.heap.size+6/\jV jI 155 #[nk (some ⟨I.heap.size,0,none⟩) 3 3] W λe af=>∃E:Int,e=nE (ng nH E)/\
   ((∃er:Nat,E=er/\E≠0/\Bb t R=.error er/\∃q,Gz w.heap.size w t.lab tv s deep most q af)\/(∃x,E=0/\Bb t R=.ok x/\Gz w.heap.size w t.lab tv s deep most (some x) af))):=jH λI W aF aG=>by
  obtain⟨hI,O⟩:=a3B (t:=t) (tv:=tv) (s:=s) (deep:=deep) (most:=most) rfl rfl rfl rfl rfl aF aG;refine⟨O,?_⟩;rw[O];obtain⟨C,ax,ay,az,aA⟩:∃C:Nat->Option (nL IL),C 0=none/\C 1=none/\C 2=got R/\C 3=got R:=⟨λk=>if k<2 then none else got R,if_pos nN,if_pos nN,if_neg nN,if_neg nN⟩;have aH:∀W,Gz w.heap.size w t.lab tv s deep most (C 0) W->jV jI 162 #[nz (some ⟨w.heap.size,0,none⟩)] W λe w'=>e=nE (ng nH (if pX t=true then 0 else 1))/\Gz w.heap.size w t.lab tv s deep most (C 1) w':=λW h=>by
   rw[ax]at h;rw[ay];exact a3y t w tv J ae s deep most _ W h
  have aI:∀W,Gz w.heap.size w t.lab tv s deep most (C 1) W->jV jI 164 #[nz (some ⟨w.heap.size+1,0,none⟩),nz (some ⟨w.heap.size+2,0,none⟩),nz (some ⟨w.heap.size+3,0,none⟩),nz (some ⟨w.heap.size+5,0,none⟩)] W λe w'=>e=nE (ng nH (EX R))/\Gz w.heap.size w t.lab tv s deep most (C 2) w':=λW h=>by
   rw[ay]at h;rw[az];exact a3z t w tv s deep most R au W h
  have aJ:EX R=0->∀W,Gz w.heap.size w t.lab tv s deep most (C 2) W->jV jI 166 #[nz (some ⟨w.heap.size,0,none⟩),nz (some ⟨w.heap.size+5,0,none⟩)] W λe w'=>e=nE (ng nH (a0S t R))/\Gz w.heap.size w t.lab tv s deep most (C 3) w':=λhg W h=>by
   rw[az]at h;rw[aA];cases R with
   |error er=>have Q:=aa er rfl;have U:EX (.error er:Except Nat (nL IL))=(er:Int):=rfl;omega
   |ok x=>exact a3A t x w tv J (Y x rfl) ae s deep most W h
  rw[<-ax]at hI;refine(M7 W _ _ _ (w.heap.size+6) FnG (if pX t=true then 0 else 1) (EX R) (a0S t R) (λk W=>Gz w.heap.size w t.lab tv s deep most (C k) W) (λk W h=>Gz.f h) hI aH (λ_=>aI) (λ_ h=>aJ h)).mono ?_;rintro e af ⟨rfl,A⟩;refine⟨_,rfl,?_⟩;rcases Nh t R aa _ rfl with⟨er,Q,U,ag⟩|⟨x,Q,U,ag,aK⟩
  .exact .inl ⟨er,Q,U,ag,_,A⟩
  .rw[aK,aA,U]at A
   exact .inr ⟨x,Q,ag,A⟩
 obtain⟨ot,ct,rfl,_,_⟩:=J.slice;generalize Bb t R=aS at*;clear aa J Y ae au;go_in;go_upto_region 2 with fail;generalize Z:World.alloc (World.alloc _ _) _=I;obtain⟨O,hcall⟩:=av.out I _ Z rfl;rw[O]at hcall;have ah:=jH hcall;clear hcall av Z;rw[show w.heap.size+1+1+1+1+1=w.heap.size+5 from rfl,show w.heap.size+1+1+1+1=w.heap.size+4 from rfl,show w.heap.size+1+1+1=w.heap.size+3 from rfl,show w.heap.size+1+1=w.heap.size+2 from rfl];go_wp2_with fail;refine ah.mono ?_;rintro e aT ⟨E,rfl,⟨er,rfl,he,rfl,q,A⟩|⟨x,rfl,rfl,A⟩⟩
 .have aU:((er:Int) !=0)=true:=by simpa using he
  have H:=jH A;have z0:=A.r.free 0;have aL:=A.r.free 1;have aM:=A.r.free 2;have aB:=A.r.c0;have aC:=A.r.c1;have y2:=A.r.c2;clear A he ah;go_wp2_with fail;rw[p8];obtain⟨hB,hb,_⟩:=RY H (ny ⟨#[]⟩) (nA false) (nk none 0 0);obtain⟨ai,aj,ak⟩:=hB.a3;refine j4 (v:=nD #[nC #[ny ⟨#[]⟩,nA false,nk none 0 0],ng nH (er:Nat)]) (by simp[kK,Tryz.results117,go_sem,ai,aj,ak]) rfl ⟨rfl,hb⟩
 .have H:=jH A
  obtain⟨v,V,aD⟩:=A.o;have N:=aD x rfl;obtain⟨ov,cv,rfl,_,_⟩:=nV.slice N;have aN:=jH N;obtain⟨z0,aL,aM⟩:=A.r.f3;have aB:=A.r.cell 0;have aC:=A.r.cell 1;have y2:=A.r.cell 2;have aO:=V.cell 0;have aP:=V.cell 1;have aQ:=V.cell 2;simp only[itC,jO,jN,jM]at aB aC y2 aO aP aQ;clear A V aD N ah;go_wp2_with fail;rw[p8];obtain⟨hB,hb,hk⟩:=RY H (ny (txt x.lab)) (nA x.lab.list) (nk ov x.sub.length cv);obtain⟨ai,aj,ak⟩:=hB.a3;refine j4 (v:=nD #[nC #[ny (txt x.lab),nA x.lab.list,nk ov x.sub.length cv],ng nH 0]) (by simp[kK,Tryz.results117,go_sem,ai,aj,ak]) rfl ⟨_,rfl,hk _ _ aN.out,hb⟩
end
section
def qC(n:Nat):Nat:=if n<253 then n else if n<65536 then 253 else if n<4294967296 then 254 else 255
def oU(b:Nat):Nat:=if b<253 then 0 else if b=253 then 2 else if b=254 then 4 else 8
def wC(n:Nat):List UInt8:=jZ (qC n)::vJ (oU (qC n)) n
def ry:List UInt8->Nat×Nat×Nat
 |[]=>(0,0,2)
 |b::r=>if b.toNat<253 then(b.toNat,1,0)else
  if r.length<oU b.toNat then(0,0,2)else
  if qC (pU (r.take (oU b.toNat)))≠b.toNat then(0,0,3)else(pU (r.take (oU b.toNat)),1+oU b.toNat,0)
theorem Xj(n:Nat):qC n<256:=by unfold qC;(repeat' split)<;>omega
theorem wW(b:Nat):oU b<=8:=by unfold oU;(repeat' split)<;>omega
theorem a5T(n:Nat)(h:n<18446744073709551616)(c:253<=n):n<256^oU (qC n):=by
 unfold qC oU;repeat' split
 all_goals first|omega|(simp;omega)
theorem Xk(n:Nat):(wC n).length=1+oU (qC n):=by unfold wC;simp;omega
theorem RZ(n:Nat):(wC n).length<=9:=by rw[Xk];have:=wW (qC n);omega
theorem GA(n:Nat)(h:n<253):qC n=n:=by unfold qC;rw[if_pos h]
theorem Xl(n:Nat)(h:253<=n):253<=qC n:=by unfold qC;(repeat' split)<;>omega
theorem P8(n:Nat)(h:n<253):oU n=0:=by unfold oU;rw[if_pos h]
theorem R3(n:Nat)(h:n<253):wC n=[jZ n]:=by unfold wC;rw[GA n h,P8 n h];rfl
theorem Xm{N K:Nat}(h:ry l=(N,K,0)):K<=l.length/\N<18446744073709551616/\wC N=l.take K/\K<=9:=by
 cases l with
 |nil=>simp[ry]at h
 |cons b r=>
  rw[ry]at h;have hb:=b.toNat_lt;split at h
  .rename_i c
   simp only[Prod.mk.injEq,and_true]at h;obtain⟨rfl,rfl⟩:=h;refine⟨nR,nK,?_,nK⟩;rw[R3 _ c];simp
  .split at h
   .simp at h
   .split at h
    .simp at h
    .rename_i c1 c2 c3
     simp only[Prod.mk.injEq,and_true]at h;obtain⟨rfl,rfl⟩:=h;have hl:(r.take (oU b.toNat)).length=oU b.toNat:=by rw[kY];omega
     have A:=uG (r.take (oU b.toNat));have C:=wW b.toNat;rw[hl]at A;have E:qC (pU (r.take (oU b.toNat)))=b.toNat:=by simpa using c3
     refine⟨nQ,kG A (kg (lq nN C) nN),?_,nK⟩;have e:=Md (r.take (oU b.toNat));rw[hl]at e;unfold wC;rw[E,e,u8e (b:=b) rfl,Nat.add_comm 1,ky]
theorem P9(l:List UInt8):ry (l.take 9)=ry l:=by
 cases l with
 |nil=>rfl
 |cons b r=>
  have C:=wW b.toNat;rw[ky,ry,ry,List.take_take,Nat.min_eq_left C,kY];by_cases A:r.length<oU b.toNat;.rw[if_pos (show min 8 r.length<_ by omega),if_pos A]
  .rw[if_neg (show¬min 8 r.length<_ by omega),if_neg A]
end
section
open Go.RowKit
def n3(t:Nat×Nat×Nat):jP:=nD #[ng nI t.1,ng nH t.2.1,ng nH t.2.2]
structure xm(w:jJ):Prop where
 a:w.cell? ⟨0,0,none⟩=some (ng nH 2)
 b:w.cell? ⟨0,1,none⟩=some (ng nH 4)
 c:w.cell? ⟨0,2,none⟩=some (ng nH 8)
theorem xm.at_{w:jJ}(h:xm w)(b:Nat)(A:253<=b)(C:b<256):w.cell? ⟨0,b - 253,none⟩=some (ng nH (oU b)):=by
 rcases(show b=253\/b=254\/b=255 by omega)with rfl|rfl|rfl
 .exact h.a
 .exact h.b
 .exact h.c
theorem xm.below{w w':jJ}{B:Nat}(h:xm w)(hb:jS B w w')(hB:0<B):xm w':=
 ⟨(hb.cell (p:=⟨_,0,none⟩) hB).trans h.a,(hb.cell (p:=⟨_,1,none⟩) hB).trans h.b,(hb.cell (p:=⟨_,2,none⟩) hB).trans h.c⟩
theorem xm.lt{w:jJ}(h:xm w):0<w.heap.size:=by
 rcases lh 0 w.heap.size with A|A
 .exact A
 .have:=h.a
  simp[mW,Array.getElem?_eq_none A]at this
theorem GD(n:Nat)(w:jJ)(hn:n<18446744073709551616):
  jV jI 245 #[ng nI n] w λe w'=>e=nE (ng .u8 (qC n))/\w=w':=by
 by_cases A:n<253
 .have e:=jH (GA n A)
  go_in;go_wp2_with fail;go_returns;exact⟨by rw[e.out];exact congrArg lH (congrArg (lT .u8) nK),rfl⟩
 .have I:decide ((n:Int)<253)=false:=nQ
  by_cases C:n<65536
  .have e:jW (qC n=253):=by unfold jW qC;rw[if_neg A,if_pos C]
   have g2:decide ((n:Int)<65536)=true:=nQ;clear A C hn;go_in;exact xW
  .have g2:decide ((n:Int)<65536)=false:=nQ
   by_cases E:n<4294967296
   .have e:jW (qC n=254):=by unfold jW qC;rw[if_neg A,if_neg C,if_pos E]
    have g3:decide ((n:Int)<4294967296)=true:=nQ;clear A C E hn;go_in;exact xW
   .have g3:decide ((n:Int)<4294967296)=false:=nQ
    have e:jW (qC n=255):=by unfold jW qC;rw[if_neg A,if_neg C,if_neg E]
    clear A C E hn;go_in;exact xW
theorem Ni(n:Nat)(w:jJ)(hn:n<18446744073709551616)(A:xm w):
  jV jI 208 #[ng nI n] w λe w'=>e=nE (ny ⟨(wC n).toArray⟩)/\jS w.heap.size w w':=by
 have c1:=jH (GD n w hn);have hlt:=Xj n;by_cases C:n<253
 .have e:=jH (R3 n C)
  have e2:=GA n C;rw[e2]at c1;clear hlt e2;have hst:=λw=>FN Ch w [jZ n] #[ng .u8 n] 1 rfl (yf rfl nK) nN
  go_in;go_wp2_with fail;refine c1.mono ?_;rintro e w' ⟨rfl,rfl⟩;go_wp2_with fail;go_returns;exact⟨by rw[e.out];rfl,(jT _ _).alloc (jL _) _⟩
 .have E:=Xl n nK
  have U:=xm.at_ A (qC n) E hlt;have hk:=wW (qC n);have I:1<=oU (qC n):=by unfold oU;rw[if_neg nK];(repeat' split)<;>omega
  have c2:=jH (λw=>uX n (oU (qC n)) w hn I hk (a5T n hn nK));have e:jW (wC n=jZ (qC n)::vJ (oU (qC n)) n):=rfl;have hlen:=pF (oU (qC n)) n;generalize vJ (oU (qC n)) n=tl at*;generalize oU (qC n)=k at*;generalize qC n=hd at*;have hsz:(⟨tl.toArray⟩:ByteArray).size=k:=by rw[size_mk];exact hlen
  generalize htl:(⟨tl.toArray⟩:ByteArray)=TL at*;have N:=jH htl;have O:TL.size<=8:=nK;have V:=xm.lt A;clear htl hlen hsz A;have hst:=λw=>FN Ch w [jZ hd] #[ng .u8 hd] 1 rfl (yf rfl nK) nN
  have Q:(0:Int)<=(hd:Int) - 253:=nK;have J:(hd:Int) - 253<3:=nK;go_in;go_wp2_with fail;refine c1.mono ?_;rintro e w' ⟨rfl,rfl⟩;go_wp2_with fail;refine(c2 _).mono ?_;rintro e w1 ⟨rfl,hb⟩;go_wp2_with fail;go_returns;exact⟨by rw[e.out,<-N.out];exact congrArg (λb:ByteArray=>lH (Value.string b)) (Uw nR),((jT _ _).alloc (jL _) _).trans (hb.mono nR)⟩
theorem toList_cons(s:ByteArray)(h:0<s.size):s.data.toList=s[0]::s.data.toList.drop 1:=by
 exact RU
theorem GG(s:ByteArray)(k:Nat):(s.extract 1 (1+k)).data.toList=(s.data.toList.drop 1).take k:=by
 rw[mY,show 1+k - 1=k by omega]
theorem Qa(s:ByteArray)(h:0<s.size):s.toList.isEmpty=false:=by
 rw[Lib.toList_data,toList_cons s h];rfl
theorem Xn(s:ByteArray)(h:0<s.size)(A:s[0].toNat<253):ry s.data.toList=(s[0].toNat,1,0):=by
 rw[toList_cons s h,ry,if_pos A]
theorem Xo(s:ByteArray)(h:0<s.size)(A:253<=s[0].toNat)(C:s.size<1+oU s[0].toNat):ry s.data.toList=(0,0,2):=by
 rw[toList_cons s h,ry,if_neg nK,if_pos (by rw[kS];simp;omega)]
theorem Xp(s:ByteArray)(h:0<s.size)(C:253<=s[0].toNat)(E:1+oU s[0].toNat<=s.size)(A:qC (pU (s.extract 1 (1+oU s[0].toNat)).data.toList)≠s[0].toNat):ry s.data.toList=(0,0,3):=by
 rw[GG]at A;rw[toList_cons s h,ry,if_neg nK,if_neg (by rw[kS];simp;omega),if_pos A]
theorem Xq(s:ByteArray)(h:0<s.size)(C:253<=s[0].toNat)(E:1+oU s[0].toNat<=s.size)(A:qC (pU (s.extract 1 (1+oU s[0].toNat)).data.toList)=s[0].toNat):ry s.data.toList=(pU (s.extract 1 (1+oU s[0].toNat)).data.toList,1+oU s[0].toNat,0):=by
 rw[GG]at A⊢;rw[toList_cons s h];show ry (s[0]::s.data.toList.drop 1)=_;rw[ry,if_neg nK,if_neg (by rw[kS];simp;omega),if_neg (λh=>h A)];rfl
theorem UA(s:ByteArray)(w:jJ)(hs:s.size<=j5)(I:xm w):
  jV jI 246 #[ny s] w λe w'=>e=nE (n3 (ry s.data.toList))/\w=w':=by
 unfold j5 at hs;by_cases h0:s.size=0
 .have e:s=⟨#[]⟩:=Uw (mf.1 (by simpa using h0))
  subst e;exact Bu
 .have hp:0<s.size:=nK
  have V:=Qa s hp;clear h0;have hb:s[0].toNat<=255:=by have:=s[0].toNat_lt;omega
  by_cases J:s[0].toNat<253
  .have e:=jH (Xn s hp J)
   go_in;exact xW
  .have A:253<=s[0].toNat:=nK
   have Y:=xm.at_ I s[0].toNat A nK;have hk:=wW s[0].toNat;have Z:1<=oU s[0].toNat:=by unfold oU;rw[if_neg nK];(repeat' split)<;>omega
   have e1:=jH (Xo s hp A);have e2:=jH (Xp s hp A);have e3:=jH (Xq s hp A);generalize oU s[0].toNat=k at*;have aa:(0:Int)<=(s[0].toNat:Int) - 253:=nK;have ae:(s[0].toNat:Int) - 253<3:=nK;have hd2:decide ((s[0].toNat:Int)<253)=false:=nQ;clear J I;by_cases E:s.size<1+k
   .have e:=jH (e1 E)
    go_in;exact xW
   .have g2:1+k<=s.size:=nK
    have N:(s.extract 1 (1+k)).size=k:=by rw[kz];omega
    have c1:=λw=>tC (s.extract 1 (1+k)) w nK nK
    have hn:pU (s.extract 1 (1+k)).data.toList<18446744073709551616:=by
     have h:=uG (s.extract 1 (1+k)).data.toList;have hl:(s.extract 1 (1+k)).data.toList.length=k:=by rw[<-Lib.size_eq];exact N
     rw[hl]at h;exact kG h (Mi k hk)
    have c2:=λw=>GD _ w hn
    generalize pU (s.extract 1 (1+k)).data.toList=n at*;have O:=jH c1;have Q:=jH c2;clear c1 c2 N;generalize qC n=hd at*;by_cases C:hd=s[0].toNat
    .have e:=jH (e3 g2 C)
     have U:((hd:Int) !=(s[0].toNat:Int))=false:=by rw[bne_eq_false_iff_eq];omega
     clear E C e1 e2 e3;go_in;go_wp2_with fail;refine(O _).mono ?_;rintro e w' ⟨rfl,rfl⟩;go_wp2_with fail;refine(Q _).mono ?_;rintro e w' ⟨rfl,rfl⟩;exact xW
    .have e:=jH (e2 g2 C)
     have U:((hd:Int) !=(s[0].toNat:Int))=true:=FL;clear E C e1 e2 e3;go_in;go_wp2_with fail;refine(O _).mono ?_;rintro e w' ⟨rfl,rfl⟩;go_wp2_with fail;refine(Q _).mono ?_;rintro e w' ⟨rfl,rfl⟩;exact xW
def KG(t:Nat×Nat×Nat)(most:Nat):Nat:=if t.2.2=0/\most<t.1 then 5 else t.2.2
def RS.comp(r:RS)(most:Nat):RS×Nat:=
 if r.f=0 then
  (λt:Nat×Nat×Nat=>if KG t most=0 then((⟨r.t,r.p+t.2.1,0⟩:RS),t.1)else(⟨r.t,r.p,KG t most⟩,0)) (ry (r.t.data.toList.drop r.p))
 else(r,0)
theorem CU{t:ByteArray}{p n k:Nat}(h:ry (t.data.toList.drop p)=(n,k,0))(hp:p<=t.size):p+k<=t.size:=by
 have A:=(Xm h).1;rw[kS]at A;have:t.data.toList.length=t.size:=nR;omega
theorem RS.Ok.comp{r:RS}(h:r.Ok)(most:Nat):(r.comp most).1.Ok:=by
 obtain⟨A,C⟩:=h;unfold RS.comp;split
 .generalize ht:ry (r.t.data.toList.drop r.p)=t
  obtain⟨n,k,e⟩:=t;simp only[];split
  .rename_i I he
   have E:e=0:=by unfold KG at he;simp only at he;split at he<;>omega
   subst E;exact⟨CU ht A,C⟩
  .exact⟨A,C⟩
 .exact⟨A,C⟩
theorem Xr(r:RS)(most:Nat):(r.comp most).1.t=r.t:=by
 unfold RS.comp;split
 .generalize ry (r.t.data.toList.drop r.p)=t
  simp only[];split<;>rfl
 .rfl
theorem R4(h:p:=by
 have key:∀i,w'.cell? ⟨0,i,none⟩=w.cell? ⟨0,i,none⟩:=λi=>by simp only[mW,hb]
 exact⟨(key 0).trans h.a,(key 1).trans h.b,(key 2).trans h.c⟩):p:=h
theorem xm.upd{w w':jJ}{b:Nat}(h:xm w)(u:pE b w w')(A:0≠b):xm w':=by
 have hb:=u.block 0 h.lt (by simpa using A);exact R4
theorem Qb(h:p:=by
 go_in;go_wp2_with fail;refine cf.mono ?_;rintro e w' ⟨rfl,rfl⟩;simp only[];go_wp2_with fail;refine ca.mono ?_;rintro e w2 ⟨rfl,u2,hb2⟩;have hT2:=jH (HT.upd u2 hG);go_wp2_with fail;refine(CN _ hT2).mono ?_;rintro e w' ⟨rfl,rfl⟩;go_wp2_with fail;refine(CX _ hb2).mono ?_;rintro e w3 ⟨rfl,u3,hb3⟩;go_wp2_with fail;go_returns;exact⟨rfl,u2.trans u3,hb3⟩):p:=h
theorem UB(b:Nat)(r:RS)(most:Nat)(w:jJ)(Y:r.Ok)(hb:wo w b r)(ai:most<18446744073709551616)(E:xm w)(hG:0≠b):
  jV jI 210 #[nz (some ⟨b,0,none⟩),ng nI most] w (zw b w (r.comp most).1 (ng nI (r.comp most).2)):=by
 obtain⟨t,p,f⟩:=r;obtain⟨J,O⟩:=Y;simp only at J O;have cf:=jH (qc b ⟨t,p,f⟩ w hb);have HT:=jH E;clear E;by_cases N:f=0
 .subst N
  have ca:=jH (J5 b ⟨t,p,0⟩ 9 w ⟨J,O⟩ hb);have U:RS.ahead ⟨t,p,0⟩ 9=t.extract p (p+min 9 (t.size - p)):=by unfold RS.ahead;rw[if_pos rfl,if_pos nN];rfl
  have Q:=λw E=>UA (t.extract p (p+min 9 (t.size - p))) w (by unfold j5;rw[kz];omega) E
  have en:ry (t.extract p (p+min 9 (t.size - p))).data.toList=ry (t.data.toList.drop p):=by
   rw[mY,<-P9 (t.data.toList.drop p)];congr 1;rw[show p+min 9 (t.size - p) - p=min 9 (t.size - p)by omega];by_cases V:9<=t.size - p;.rw[Nat.min_eq_left V]
   .have hl:(t.data.toList.drop p).length<=t.size - p:=by rw[kS];simp
    rw[Nat.min_eq_right nK,List.take_of_length_le hl,List.take_of_length_le nK]
  rw[en]at Q;rw[U]at ca;generalize t.extract p (p+min 9 (t.size - p))=x at*;have A:∀T,ry (t.data.toList.drop p)=T->RS.comp ⟨t,p,0⟩ most=if KG T most=0 then((⟨t,p+T.2.1,0⟩:RS),T.1)else(⟨t,p,KG T most⟩,0):=by
   intro T E;unfold RS.comp;rw[if_pos rfl,E]
  have hsz:=λn k (h:ry (t.data.toList.drop p)=(n,k,0))=>CU h J
  generalize ry (t.data.toList.drop p)=T at*;have A:=A T rfl;obtain⟨n,k,e⟩:=T;clear U en;have CN:jW (∀w,xm w->jV jI 246 #[ny x] w λZ w'=>Z=nE (nD #[ng nI n,ng nH k,ng nH e])/\w=w'):=Q;clear Q;by_cases he:e=0
  .subst he
   have ae:=hsz n k rfl;clear hsz;by_cases I:most<n
   .have e5:KG (n,k,0) most=5:=if_pos ⟨rfl,I⟩
    rw[e5,if_neg nN]at A;rw[A];have C:=λw h=>ui b ⟨t,p,0⟩ 5 w h
    rw[show RS.fail ⟨t,p,0⟩ 5=⟨t,p,5⟩from rfl]at C;have CX:=jH C;clear C A e5;exact Qb
   .have e5:KG (n,k,0) most=0:=if_neg (λh=>I h.2)
    rw[e5,if_pos rfl]at A;rw[A];have aa:decide (most<n)=false:=nQ;have C:=λw h=>qg b ⟨t,p,0⟩ k w ⟨J,O⟩ h
    rw[show RS.take ⟨t,p,0⟩ k=(⟨t,p+k,0⟩,t.extract p (p+k))from by unfold RS.take;rw[if_pos rfl,if_neg nK,if_neg (by simp only[];omega)];rfl]at C;have CX:=jH C;clear C A e5 I;exact Qb
  .have e5:KG (n,k,e) most=e:=if_neg (λh=>he h.1)
   rw[e5,if_neg he]at A;rw[A];have af:((e:Int)==0)=false:=wL;have ag:((e:Int) !=0)=true:=FL;have C:=λw h=>ui b ⟨t,p,0⟩ e w h
   rw[show RS.fail ⟨t,p,0⟩ e=⟨t,p,e⟩from rfl]at C;have CX:=jH C;clear C A e5 he;exact Qb
 .have e:RS.comp ⟨t,p,f⟩ most=(⟨t,p,f⟩,0):=by unfold RS.comp;rw[if_neg N]
  rw[e];have ah:((f:Int) !=0)=true:=by rw[bne_iff_ne];exact N
  clear e N;go_in;go_wp2_with fail;refine cf.mono ?_;rintro e w' ⟨rfl,rfl⟩;simp only[];go_wp2_with fail;go_returns;exact⟨rfl,pE.refl b w,hb⟩
def yn(b:ByteArray):nL IL:=.node ⟨b.data.toList,false⟩ []
def GH(b:ByteArray):Nat:=if 1<=b.size/\b.size<=8 then pU b.data.toList else 0
def KH(n:Nat):nL IL:=.node ⟨(xh n).reverse,false⟩ []
def Jq(s:List (nL IL)):nL IL:=.node ⟨[],true⟩ s
abbrev RdV:=nL IL×RS×Nat
def qI(f:nL TL->RS->Nat->RdV):List (nL TL×Bool)->RS->Nat->List (nL IL)×RS×Nat
 |[],r,l=>([],r,l)
 |t::ts,r,l=>if(t.2=true\/r.p<r.t.size)/\r.f=0 then
   ((f t.1 r l).1::(qI f ts (f t.1 r l).2.1 (f t.1 r l).2.2).1,(qI f ts (f t.1 r l).2.1 (f t.1 r l).2.2).2)else([],r,l)
def za(s:List (nL TL))(tail:Int):List (nL TL×Bool):=s.mapIdx λi t=>(t,decide ((i:Int)<s.length - tail))
def qd:Nat->nL TL->RS->Nat->RdV
 |0,_,r,l=>(yn ⟨#[]⟩,r.fail 4,l)
 |d+1,.node a s,r,l=>
  if l=0 then(yn ⟨#[]⟩,r.fail 4,0)
  else if a.kind=1 then(KH (GH (r.take a.size).2),(r.take a.size).1,l - 1)
  else if a.kind=2 then(yn (r.take a.size).2,(r.take a.size).1,l - 1)
  else if a.kind=3 then(yn ((r.comp a.size.toNat).1.take (r.comp a.size.toNat).2).2,((r.comp a.size.toNat).1.take (r.comp a.size.toNat).2).1,l - 1)
  else if a.kind=4 then match s with
   |t::_=>(Jq (qI (qd d) (lu (r.comp a.size.toNat).2 (t,true)) (r.comp a.size.toNat).1 (l - 1)).1,(qI (qd d) (lu (r.comp a.size.toNat).2 (t,true)) (r.comp a.size.toNat).1 (l - 1)).2)
   |[]=>(yn ⟨#[]⟩,r.fail 4,l)
  else(Jq (qI (qd d) (za s a.tail) r (l - 1)).1,(qI (qd d) (za s a.tail) r (l - 1)).2)
structure RdK(r r':RS):Prop where
 t:r'.t=r.t
 f:r'.f=0->r.f=0
 ok:r.Ok->r'.Ok
theorem Xt(r:RS)(x:Int):RdK r (r.fail x):=by
 refine⟨?_,?_,λh=>h.fail x⟩;.unfold RS.fail;split<;>rfl
 .intro h;unfold RS.fail at h;split at h<;>assumption
theorem GI(r:RS)(n:Int):RdK r (r.take n).1:=by
 refine⟨?_,?_,λh=>h.take n⟩;.unfold RS.take;(repeat' split)<;>rfl
 .intro h
  unfold RS.take at h;split at h<;>assumption
theorem Jr{r:RS}{n:Nat}(h:(r.comp n).1.f=0):(r.comp n).2<=n:=by
 unfold RS.comp at h⊢;split at h
 .rename_i A
  rw[if_pos A];generalize ry (r.t.data.toList.drop r.p)=t at*;dsimp only at h⊢;split at h
  .rename_i h0
   rw[if_pos h0];unfold KG at h0;dsimp only;split at h0;.cases h0
   .rename_i C
    omega
  .rename_i h0
   rw[if_neg h0];exact kI _
 .rename_i A
  exact absurd h A
theorem Js:∀{s:List (nL α)}{x:nL α},x∈s->x.deep<=nL.o6 s
 |[],_,h=>by cases h
 |y::ys,x,h=>by
  simp only[nL.o6];rcases mD.1 h with rfl|h
  .omega
  .have:=Js h;omega
theorem R5(b:ByteArray):GH b<18446744073709551616:=by
 unfold GH;split
 .rename_i h
  have A:=uG b.data.toList;have C:b.data.toList.length=b.size:=nR;rw[C]at A;have E:(256:Nat)^b.size<=256^8:=lq nN h.2;have I:(256:Nat)^8=18446744073709551616:=nN;omega
 .decide
def KI(t:nL TL)(s:ByteArray)(items:Int):Except Nat (nL IL×Nat):=
 if(qd 8 t (RS.of s) (min items 1024).toNat).2.1.f≠0 then .error (qd 8 t (RS.of s) (min items 1024).toNat).2.1.f.toNat
 else .ok ((qd 8 t (RS.of s) (min items 1024).toNat).1,(qd 8 t (RS.of s) (min items 1024).toNat).2.1.p)
def UC(t:nL TL)(s:ByteArray)(items:Int):Except Nat (nL IL):=match KI t s items with
 | .error er=> .error er
 | .ok y=>if y.2<s.size then .error 3 else .ok y.1
end
section
def EY(l:List UInt8)(R:Except Nat (nL IL×Nat×Nat)):Except Nat (nL IL):=match R with
 | .error er=> .error er
 | .ok y=>if y.2.1<l.length then .error 3 else .ok y.1
end
section
open Go.RowKit
structure Row where
 id:Nat
 name:ByteArray
 text:ByteArray
 ty:nL TL
structure IU where
 name:ByteArray
 val:nL IL
def GJ(c:oK)(t:nL TL)(s:ByteArray):Except Nat (nL IL):=
 if c.fmt=1 then UC t s c.oZ else Bb t (EY s.data.toList (vU (min c.dep 16).toNat s.data.toList (min c.oZ 1024).toNat))
def ofF(c:oK)(rows:List Row)(f:vS):Option Row:=
 if c.fmt=1 then if f.id=0 then rows.find? λr=>decide (r.name=f.name)else none else if f.name.size=0 then rows.find? λr=>decide (r.id=f.id)else none
def KJ(c:oK)(rows:List Row)(f:vS):Except Nat IU:=match ofF c rows f with
 |none=> .error 11
 |some r=>match GJ c r.ty f.body with
  | .error er=> .error (if er=2 then 3 else er)
  | .ok x=> .ok ⟨r.name,x⟩
def uy(c:oK)(rows:List Row)(s:ByteArray)(mt:Option (Nat×MS)):Except Nat (IU×Nat)×Option (Nat×MS):=match qN c s mt with
 |(.error er,m2)=>(.error er,m2)
 |(.ok y,m2)=>match KJ c rows y.1 with
  | .error er=>(.error er,m2)
  | .ok m=>(.ok (m,y.2),m2)
structure a0T where
 told:List IU
 at_:Nat
 err:Nat
 mt:Option (Nat×MS)
def xw(c:oK)(rows:List Row)(s:ByteArray):Nat->Nat->Option (Nat×MS)->a0T
 |0,p,mt=>⟨[],p,2,mt⟩
 |n+1,p,mt=>match uy c rows (s.extract p s.size) mt with
  |(.error er,m2)=>⟨[],p,er,m2⟩
  |(.ok y,m2)=>⟨y.1::(xw c rows s n (p+y.2) m2).told,(xw c rows s n (p+y.2) m2).at_,(xw c rows s n (p+y.2) m2).err,(xw c rows s n (p+y.2) m2).mt⟩
theorem D7(c:oK)(rows:List Row)(s:ByteArray)(mt:Option (Nat×MS)):oI (uy c rows s mt).2=oI mt:=by
 have h:=zJ c s mt;unfold uy;split;.rename_i e1;rw[e1]at h;exact h
 .rename_i e1
  rw[e1]at h;split<;>exact h
theorem Nj{f:Nat->Int}:∀ n k:Nat,xq f n k=0->∀j,j<n->f (k+j)=0
 |0,k,_,j,A=>by omega
 |n+1,k,h,j,A=>by
  unfold xq at h;split at h
  .rename_i h0
   cases j with
   |zero=>exact h0
   |succ j=>rw[show k+(j+1)=k+1+j by omega];exact Nj n (k+1) h j nK
  .rename_i h0;exact absurd h h0
theorem Xu{s:ByteArray}{m most:Int}{y:vS×Nat}(h:uS s m most=.ok y):0<y.2/\y.2<=s.size/\y.1.body.size<=s.size/\y.1.id=0:=by
 unfold uS at h;split at h
 .rename_i h0
  cases h;have A:=Nj 9 0 h0 7 nN;have A:IK (decide (24+uZ s<=s.size)) 2=0:=A;have C:=uJ nN A;simp only[decide_eq_true_eq]at C;refine⟨nK,C,?_,rfl⟩;simp only[kz];omega
 .cases h
theorem Nk{N K:Nat}(h:om l 0 0=(N,K,0)):0<K:=by
 cases K with
 |zero=>
  obtain⟨_,_,C,_⟩:=tQ h;have A:=O0 N;rw[C]at A;simp at A
 |succ K=>omega
theorem Nl{most:Int}{s:ByteArray}(h:(o9 most s).e=0):0<(o9 most s).n/\(o9 most s).n<=s.size/\(o9 most s).body.size<=s.size:=by
 unfold o9 at*;split
 .rename_i h0
  rw[if_pos h0]at h;generalize E:pq most s.data.toList=q at*;obtain⟨n,k,e⟩:=q;dsimp only at*;subst h0;have I:=zA E;have J:=Nk I.1;split
  .rename_i A
   rw[if_pos A]at h;cases h
  .rename_i A
   rw[if_neg A]at h;split
   .rename_i C
    refine⟨by dsimp only;omega,by dsimp only;omega,?_⟩;dsimp only;simp only[kz];omega
   .rename_i C
    rw[if_neg C]at h;cases h
 .rename_i h0
  rw[if_neg h0]at h;exact absurd h h0
theorem R6{size:Nat}:∀(f:Nat)(r:RS)(l:List UInt8),r.Ok->l.length<=size->(wO size f r l).2.length<=size
 |0,r,l,_,hl=>hl
 |f+1,r,l,ho,hl=>by
  unfold wO;split
  .rename_i h
   obtain⟨_,_,A,C⟩:=zC ho hl h.1 h.2;exact R6 f _ _ A C
  .exact hl
theorem Xv{s:ByteArray}{size:Nat}(hs:s.size<=j5)(h:Cj s size=.ok l):l.length<=size:=by
 unfold Cj at h;dsimp only at h;have A:=R6 (size:=size) (s.size+1) (RS.of s) [] (RS.Ok.of (by unfold j5 at hs;omega)) (kI _);generalize wO size (s.size+1) (RS.of s) []=y at*;generalize (if y.2.length<size then y.1.fail 2 else y.1)=r at h;split at h;.cases h
 .cases h;exact A
theorem Qc{s:ByteArray}{A:Int}{mt m2:Option (Nat×MS)}(hs:s.size<=j5)(h:sj s A mt=(.ok l,m2)):(l.length:Int)<=A:=by
 unfold sj at h;generalize tT s.data.toList=q at*;obtain⟨n,k,e⟩:=q;dsimp only at h;split at h;.cases h
 .split at h
  .cases h
  .rename_i C
   split at h;.cases h
   .simp only[Prod.mk.injEq]at h
    have:=Xv (by simp only[kz];omega) h.1;omega
theorem Nn{c:oK}(hc:oM c=true){s:ByteArray}(hs:s.size<=100000){mt:Option (Nat×MS)}{y:vS×Nat}(h:(qN c s mt).1=.ok y):0<y.2/\y.2<=s.size/\y.1.body.size<=100000:=by
 obtain⟨_,_,⟨E,I⟩,_,_⟩:=qH hc;unfold qN at h;split at h
 .have:=Xu h
  exact⟨this.1,this.2.1,nK⟩
 .split at h
  .dsimp only at h
   unfold wU at h;split at h;.cases h
   .rename_i h0
    cases h;have:=Nl (by simpa using h0);exact⟨this.1,this.2.1,by dsimp only;omega⟩
  .unfold vN at h
   split at h;.cases h
   .rename_i h0
    have A:=Nl (by simpa using h0);split at h;.cases h
    .rename_i l m2 C
     cases h;have J:=Qc zg C;exact⟨A.1,A.2.1,by show((⟨l.toArray⟩:ByteArray)).size<=100000;have:((⟨l.toArray⟩:ByteArray)).size=l.length:=mP;omega⟩
def su(D:Nat->Bool)(vs:Nat->jP):List lX->Nat->Act->Act
 |[],_,a=>a
 |o::l,k,a=>su D vs l (k+1) (if D k then a.put o.dst (vs k)else a)
def zb(vs:Nat->jP):List lX->Nat->Act->Act
 |[],_,a=>a
 |o::l,k,a=>zb vs l (k+1) (a.put o.dst (vs k))
theorem Jt{D:Nat->Bool}{vs:Nat->jP}:∀(l:List lX)(k:Nat)(a:Act),(∀j,k<=j->j<k+l.length->D j=true)->su D vs l k a=zb vs l k a
 |[],_,_,_=>rfl
 |o::l,k,a,h=>by
  rw[su,zb,if_pos (h k (jL _) nR)];exact Jt l (k+1) _ λj A C=>h j nK nQ
theorem GK{D:Nat->Bool}{vs:Nat->jP}:∀(l:List lX)(k:Nat)(a:Act),(∀j,k<=j->j<k+l.length->D j=false)->su D vs l k a=a
 |[],_,_,_=>rfl
 |o::l,k,a,h=>by
  rw[su,h k (jL _) nR];exact GK l (k+1) _ λj A C=>h j nK nQ
theorem EI{D D':Nat->Bool}{vs vs':Nat->jP}:∀(l:List lX)(k:Nat)(a:Act),(∀j,k<=j->D j=D' j/\vs j=vs' j)->su D vs l k a=su D' vs' l k a
 |[],_,_,_=>rfl
 |o::l,k,a,h=>by
  rw[su,su,(h k (jL _)).1,(h k (jL _)).2];exact EI l (k+1) _ λj A=>h j nK
def uz:List lX->Bool
 |[]=>true
 |o::l=>(match o.dst with|some d=>l.all λp=>p.dst !=some d|none=>true)&&uz l
theorem BQ{D:Nat->Bool}{vs:Nat->jP}{x:Option Tmp}{v:jP}:∀(l:List lX)(k:Nat)(a:Act),(∀d,x=some d->∀p∈l,p.dst≠some d)->su D vs l k (a.put x v)=(su D vs l k a).put x v
 |[],_,_,_=>rfl
 |o::l,k,a,h=>by
  rw[su,su];split;.rw[<-BQ l (k+1) _ (λd hd p hp=>h d hd p (by simp[hp])),Act.put_comm a v (vs k) (λd hd=>h d hd o nR)]
  .exact BQ l (k+1) _ λd hd p hp=>h d hd p (by simp[hp])
theorem zV{o:lX}{l:List lX}(h:uz (o::l)=true):(∀d,o.dst=some d->∀p∈l,p.dst≠some d)/\uz l=true:=by
 simp only[uz,j3]at h;refine⟨λd hd p hp=> ?_,h.2⟩;have A:=h.1;rw[hd]at A;simpa using lY.1 A p hp
def zm(D:Nat->Bool)(i:Nat):Nat->Bool:=λj=>if j=i then true else D j
def zn(vs:Nat->jP)(i:Nat)(v:jP):Nat->jP:=λj=>if j=i then v else vs j
theorem Ju{D:Nat->Bool}{vs:Nat->jP}{i:Nat}{o:lX}{v:jP}(A:D i=false):∀(l:List lX)(k:Nat)(a:Act),uz l=true->k<=i->l[i - k]? =some o->(su D vs l k a).put o.dst v=su (zm D i) (zn vs i v) l k a
 |[],k,a,_,_,ho=>by simp at ho
 |p::l,k,a,hd,hk,ho=>by
  obtain⟨I,J⟩:=zV hd;by_cases C:i=k
  .subst C
   simp at ho;subst ho;rw[su,su,A];simp only[lF,if_false];rw[show zm D i i=true from if_pos rfl,show zn vs i v i=v from if_pos rfl];simp only[if_true];rw[BQ l (i+1) a I,EI (D':=zm D i) (vs':=zn vs i v) l (i+1) a λj N=>⟨(if_neg nK).symm,(if_neg nK).symm⟩]
  .have E:l[i -(k+1)]? =some o:=by
    rw[show i - k=(i -(k+1))+1 by omega]at ho;simpa using ho
   rw[su,su,show zm D i k=D k from if_neg nK,show zn vs i v k=vs k from if_neg nK];exact Ju A l (k+1) _ J nK E
def slotL(vs:Nat->jP):List lX->Nat->Tmp->jP->jP
 |[],_,_,v=>v
 |o::l,k,t,v=>if o.dst=some t then vs k else slotL vs l (k+1) t v
theorem Jv{D:Nat->Bool}{vs:Nat->jP}{t:Tmp}:∀(l:List lX)(k:Nat)(a:Act),(∀p∈l,p.dst≠some t)->(su D vs l k a).tmps.getD t kH=a.tmps.getD t kH
 |[],_,_,_=>rfl
 |o::l,k,a,h=>by
  rw[su,Jv l (k+1) _ λp hp=>h p (by simp[hp])];split
  .have:=Act.eval_put (a:=a) (dst:=o.dst) (v:=vs k) (x:=.tmp t) λd hd e=>by cases e;exact h o nR hd
   exact this
  .rfl
theorem Np{D:Nat->Bool}{vs:Nat->jP}{t:Tmp}:∀(l:List lX)(k:Nat)(a:Act),uz l=true->t<a.tmps.size->(∀j o,l[j]? =some o->o.dst=some t->D (k+j)=true)->
  (su D vs l k a).tmps.getD t kH=slotL vs l k t (a.tmps.getD t kH)
 |[],_,_,_,_,_=>rfl
 |o::l,k,a,hd,ht,h=>by
  obtain⟨I,J⟩:=zV hd;rw[su,slotL];by_cases A:o.dst=some t
  .rw[if_pos A,Jv l (k+1) _ λp hp=>I t A p hp,show D k=true from h 0 o rfl A]
   simp only[if_true];rw[A];simp[kE,ht]
  .have hput:(if D k then a.put o.dst (vs k)else a).tmps.size=a.tmps.size:=by
    split;.unfold kE;split<;>simp
    .rfl
   have hget:(if D k then a.put o.dst (vs k)else a).tmps.getD t kH=a.tmps.getD t kH:=by
    cases D k;.rfl
    .exact Act.eval_put (a:=a) (dst:=o.dst) (v:=vs k) (x:=.tmp t) λd C e=>by cases e;exact A C
   rw[if_neg A,Np l (k+1) _ J (by rw[hput];exact ht) λj p hp E=>by have:=h (j+1) p (by simpa using hp) E;rwa [show k+(j+1)=k+1+j by omega]at this,hget]
def Qd(ops:Array lX)(o:lX)(j:Nat):Bool:=match (ops[j]?).bind (·.dst)with|some d=>(o.looksAt ops).contains d|none=>false
section
variable {P:mK}{ops:Array lX}
theorem Oper.a3C{o:lX}{a:Act}{w:jJ}{K C:Act->jJ->Prop}{Q Q':Exit->Act->jJ->Prop}(h:∀a w,K a w->C a w)(E:∀e a w,Q e a w->Q' e a w)(hL:LetsOut Q->LetsOut Q')(A:o.wp P a w K Q):o.wp P a w C Q':=by
 unfold Oper.wp at*;generalize (execOp a.eval o).run P w=r at*;cases r with
 |ok n w'=>
  cases n<;>simp only[Oper.upon]at A⊢;case value u=>exact h _ _ A
  case skip=>exact h _ _ A
  case enter f args=>
   refine A.mono λe I he=> ?_
   cases e<;>simp only at he⊢;.exact h _ _ he
   .exact E _ _ _ he
   .exact hL he
  case defer d=>exact h _ _ A
  case row r args=>exact A.mono λv I he=>h _ _ he
 |halt x w'=>
  cases x<;>simp only[Oper.upon]at A⊢;case panic v=>exact E _ _ _ A
end
end
end Go.Proofs.YtamfcjmhnndbdaaGreatDoor


