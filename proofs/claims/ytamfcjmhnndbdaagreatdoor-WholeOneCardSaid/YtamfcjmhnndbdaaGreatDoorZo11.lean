/- Part 11 of the proof. -/
import Derived.Test.YtamfcjmhnndbdaaGreatDoorZoA
import Derived.Test.YtamfcjmhnndbdaaGreatDoorZo00
import Derived.Test.YtamfcjmhnndbdaaGreatDoorZo01
import Derived.Test.YtamfcjmhnndbdaaGreatDoorZo02
import Derived.Test.YtamfcjmhnndbdaaGreatDoorZo03
import Derived.Test.YtamfcjmhnndbdaaGreatDoorZo04
import Derived.Test.YtamfcjmhnndbdaaGreatDoorZo05
import Derived.Test.YtamfcjmhnndbdaaGreatDoorZo08
import Derived.Test.YtamfcjmhnndbdaaGreatDoorZo09
import Derived.Test.YtamfcjmhnndbdaaGreatDoorZo10
import Derived.Laws.CopyOwn
import Derived.Lib.Strings
import Derived.DeepKeys4
import Derived.Test.YtamfcjmhnndbdaaGreatDoorChecked
import Derived.Shelf.Strings.Builder1
import Derived.WalkSpells
import Derived.Deep.Cut
import Derived.OwnWalk
open Go.Value renaming agg→nI,bool→nH,int→Y,pointer→nG,slice→u,string→G,tuple→nJ,ownBlock→kz,int→lC
open Go.Obj renaming cells→nL
open Go.IntKind renaming i64→X,u32→nO,u64→nN
open Go.Ending renaming returned→nK
open Go.Lib renaming hid→H,strCells→mD,extract_data→mF
open Go.Proofs.Tryz renaming prog→jy,underlying86→lq,underlying9→lU
open Go renaming World→M,Value→jC,Calls→jG,maxLen→jN,TypeId→jX,undef→ku,Addr→kW,Oper→lJ,Program→lQ,wpQuiet_nil→l7
open Nat renaming le_refl→jB,le_trans→jM,zero_le→ko,add_assoc→kK,lt_or_ge→kQ,le_succ→kR,lt_succ_self→lF,pow_le_pow_right→lG,lt_of_le_of_lt→mi,min_eq_left→mr,zero_add→mU,add_zero→nk
open Go.RowKit renaming Below→jD,Hid→jI,intOf→kC
open Go.RowKit.Below renaming refl→jE,heap_setCell→jW
open And renaming intro→jF
open List renaming setIfInBounds_toArray→jH,length_append→jK,getElem?_eq_getElem→jL,set_cons_zero→jQ,set_cons_succ→jR,getElem?_cons_zero→jS,getElem?_cons_succ→jT,getElem?_toArray→jV,take_succ_cons→jY,length_cons→j4,replicate→ky,length_take→kD,length_drop→kG,take_zero→kJ,getD_eq_getElem?_getD→kL,take_of_length_le→kS,append_assoc→kX,range→ll,getElem?_eq_some_iff→lu,size_toArray→lK,take_length→lM,getElem?_append_left→l6,map_cons→mf,length_eq_zero_iff→mh,getElem?_take→mK,drop_zero→mM,take_append_drop→mO,drop_succ_cons→mP,getElem?_append_right→mZ,map_nil→ng,drop_eq_getElem_cons→nA
open Bool renaming and_eq_true→jJ,true_and→mQ
open ByteArray renaming size_extract→jP
open UInt8 renaming ofNat→jU,toNat_inj→lX
open Array renaming getElem?_eq_some_iff→j6,length_toList→kH
open Go.Instr renaming index→kP,lookup→lV
open Go.Code renaming region→kT
open Go.Lit renaming int→kY
open Go.Sem renaming run→lL
open Option.some renaming inj→mg,injEq→mI
open Go.Act renaming put→mR
open Go.World renaming cell?→mV,cell?_of_block→mX
open Int renaming toNat_of_nonneg→ny
open Option renaming none→V,some→U
open Bool renaming true→R,false→O
open Go.Addr renaming mk→Z
open Decidable renaming decide→At
namespace Go.Proofs.YtamfcjmhnndbdaaGreatDoor
set_option linter.unusedVariables false
set_option linter.defProp false
set_option linter.unusedSimpArgs false
set_option maxRecDepth 100000
set_option maxHeartbeats 8000000
variable {x:nS IL}{y t:nS TL}{a0:Act}{ops:Array lJ}
section
open Go.RowKit Go.Maps
structure a0Z(lo hi r bn bi:Nat)(c:oO)(L:List oV)(w:M):Prop where
 rg:qG r bn bi c L w
 lt:lo<=r/\r<hi/\lo<=bn/\bn<hi/\lo<=bi/\bi<hi
 su:∀x,x∈L->oD.om w (λk=>r<k/\k<hi) (u x.ou x.r.ty.sub.length x.cu) x.r.ty.sub
def a0Z.mono{lo A hi r bn bi:Nat}{c:oO}{L:List oV}{w:M}(h:a0Z lo hi r bn bi c L w)(hl:A<=lo):a0Z A hi r bn bi c L w:=
 ⟨h.rg,by have:=h.lt;omega,h.su⟩
def Bt(c:oO)(A:List yI)(w:M)(e:Ending)(w':M):Prop:=
 jD w.heap.size w w'/\match vV c A with
 | .error er=>e=nK (nJ #[nG V,Y X er])/\er≠0
 | .ok rows=>∃an sb r bn bi L,e=nK (nJ #[nG (U (Z sb 0 V)),Y X 0])/\(L.map λx:oV=>x.r)=rows/\x9 w' an r sb [] 0 0/\(w.heap.size<=an/\an<=sb/\an<=w'.heap.size/\bn≠bi/\r≠bn/\r≠bi/\a0Z w.heap.size an r bn bi c L w')/\∀W,jD an w' W->qG r bn bi c L W
def a00{c:oO}{I:List yI}{w w2:M}{r bn bi sb:Nat}{L:List oV}(h:vV c I=.ok (L.map λx=>x.r))(hb:jD w.heap.size w w2)(E:qG r bn bi c L w2)(A:(bn≠bi/\r≠bn/\r≠bi)/\w.heap.size<=r/\w.heap.size<=bn/\w.heap.size<=bi)(C:w2.heap.size=sb):
  Bt c I w (nK (nJ #[nG (U (Z sb 0 V)),Y X 0])) (w2.alloc (nL #[nG (U (Z r 0 V)),u V 0 0,Y X 0,Y X 0,Y X 0,Y X 0,Y X 0] LJ)):=by
 have a:=(jE w2.heap.size w2).alloc (jB _) (nL #[nG (U (Z r 0 V)),u V 0 0,Y X 0,Y X 0,Y X 0,Y X 0,Y X 0] LJ);have J:=hb.size;refine⟨hb.trans (a.mono J),?_⟩;rw[h];refine⟨sb,sb,r,bn,bi,L,rfl,rfl,⟨u V 0 0,0,0,0,C▸nU.new w2 _ _,oI.nil _ _ _⟩,⟨K,jB _,nY,A.1.1,A.1.2.1,A.1.2.2,E.below a,by have:=E.lt3;omega,λx N=> ?_⟩,λW aa=> ?_⟩;.exact((E.sq x N).keep (jB _) (λk ae af=>(⟨af,C▸ae⟩:r<k/\k<sb)) λ_ _ _=>rfl).below a
 exact E.below (a.trans (C.symm▸aa))
def Vs(c:oO)(C:List yI)(v:jC)(w:M)(aA:Kq w v C)(aa:∀e,e∈C->e.nm.size<=jN/\e.tx.size<=jN/\e.id<18446744073709551616)(av:qK w):
  jG jy 27 #[c.v,v] w (Bt c C w):=by
 obtain⟨g,hg⟩:=og w.heap.size;have ae:jI (∀W,w.alloc (nL #[Y X c.fmt,Y nO c.mag,Y X c.pV,Y X c.qH,Y X c.dep,Y X c.pq] uk)=W->jD w.heap.size w W/\nU W g #[Y X c.fmt,Y nO c.mag,Y X c.pV,Y X c.qH,Y X c.dep,Y X c.pq] uk/\W.heap.size=g+1):=H λW N=>by
  subst N;exact⟨(jE w.heap.size w).alloc (jB _) _,hg▸nU.new w _ _,by simp[hg]⟩
 have aB:jI (∀W,jD w.heap.size w W->jG jy 52 #[nI #[Y X c.fmt,Y nO c.mag,Y X c.pV,Y X c.qH,Y X c.dep,Y X c.pq],v] W (Cc c C W)):=H λW N=>a4q c C v W (aA.below N) aa (av.below N av.lt)
 obtain⟨aJ,ax⟩:=og (Bt c C w);have aC:=H ax;obtain⟨oa,cap,rfl,_⟩:=aA;rw[ax];unfold oO.v oO.cs;clear aa av ax;go_in;go_upto_region 1 with fail;obtain⟨E,af,ag⟩:=ae.out _ rfl;generalize w.alloc _=w1 at*;have I:=H (jF E ag);obtain⟨c0,c1,c2,c3,c4,c5⟩:=af.a6;have ah:=H (aB w1 E);clear ae E af ag aB;go_wp2_with fail;refine ah.mono ?_;unfold Cc;rintro e w2 ⟨ai,ay⟩;have aj:jD w.heap.size w w2:=I.1.trans (ai.mono (by have:=I.2;omega));have ak:=H aj;obtain⟨aK,J⟩:=og (vV c C);have au:=H J;rw[J]at ay;clear ai aj ah J;cases aK with
 |error er=>
  obtain⟨rfl,A⟩:=ay;have aL:((er:Int) !=0)=R:=nY;have aD:=H A;clear A;go_wp2;try go_returns
  rw[<-aC.out];exact⟨ak.out,by rw[au.out];exact⟨rfl,aD.out⟩⟩
 |ok rows=>
  obtain⟨r,bn,bi,L,rfl,aF,rfl,A,aG⟩:=ay;have aH:=H (jF aF (jF A (show w.heap.size<=r/\w.heap.size<=bn/\w.heap.size<=bi by have:=I.1.size;omega)));clear aF A aG;obtain⟨sb,aI⟩:=og w2.heap.size;have az:=H (a00 au ak aH.1 aH.2 aI);go_wp2;try go_returns
  rw[<-aC.out];exact az
def Ez(an r sb:Nat)(buf:List Ax)(nd fa:Int)(w:M)(h:x9 w an r sb buf nd fa):
  jG jy 14 #[nG (U (Z sb 0 V))] w λe w'=>e=nK (Y X (buf.length:Nat))/\w'=w:=by
 obtain⟨bv,la,tt,se,A,C⟩:=h;obtain⟨bo,bc,rfl⟩:=oI.form C;have c1:=A.cell 1;simp only[GG,jV,jS,jT]at c1;clear A C;go_in;go_wp2;go_returns;exact⟨rfl,rfl⟩
def Vt(W:M)(b:Nat)(x y z:jC):M:=((W.setCell (Z b 0 V) x).setCell (Z b 1 V) y).setCell (Z b 2 V) z
def a01(W:M)(b:Nat)(x y z:jC):((W.setCell (Z b 0 V) x).setCell (Z b 1 V) y).setCell (Z b 2 V) z=Vt W b x y z:=rfl
def Xv{W:M}{b:Nat}{x y z A C E:jC}{t:jX}(h:nU W b #[x,y,z] t):nU (Vt W b A C E) b #[A,C,E] t:=((h.set 0 A).set 1 C).set 2 E
def GH{B b:Nat}{w0 W:M}{x y z:jC}(h:jD B w0 W)(hb:B<=b):jD B w0 (Vt W b x y z):=
 ((h.setCell (p:=(Z b 0 V)) hb x).setCell (p:=(Z b 1 V)) hb y).setCell (p:=(Z b 2 V)) hb z
structure Tf(Bs:M->Prop)(lim:Nat)(x y z:jC)(da ds:Bool)(va:jC)(W:M):Prop where
 bs:Bs W
 al:da=R->∃b,va=nG (U (Z b 0 V))/\lim<=b/\nU W b (if ds=R then#[x,y,z]else zf3) rq
 lt:lim<=W.heap.size
def Vu{p:Prop}(h:p:=by
 refine⟨rG _ _ h.bs (hb.mono h.lt),λhd=> ?_,jM h.lt hb.size⟩;obtain⟨b,e,hl,hB⟩:=h.al hd;exact⟨b,e,hl,Below.blk hb hB hB.lt⟩):p:=h
def Tf.below{Bs:M->Prop}{lim:Nat}{x y z:jC}{da ds:Bool}{va:jC}{W A:M}(rG:∀W A,Bs W->jD lim W A->Bs A)(h:Tf Bs lim x y z da ds va W)(hb:jD W.heap.size W A):Tf Bs lim x y z da ds va A:=by
 exact Vu
def Tf.made{Bs:M->Prop}{lim:Nat}{x y z va:jC}{W:M}(rG:∀W A,Bs W->jD lim W A->Bs A)(h:Tf Bs lim x y z O O va W):Tf Bs lim x y z R O (nG (U (Z W.heap.size 0 V))) (W.alloc (nL zf3 rq)):=
 ⟨rG _ _ h.bs ((jE lim W).alloc h.lt _),λ_=>⟨_,rfl,h.lt,nU.new W zf3 rq⟩,by have:=h.lt;simp;omega⟩
def Tf.fill{Bs:M->Prop}{lim:Nat}{x y z va:jC}{W:M}(rG:∀W A,Bs W->jD lim W A->Bs A)(h:Tf Bs lim x y z R O va W):∃b,va=nG (U (Z b 0 V))/\nU W b zf3 rq/\Tf Bs lim x y z R R va (Vt W b x y z):=by
 obtain⟨b,e,hl,hB⟩:=h.al rfl;have hB:nU W b zf3 rq:=hB;exact⟨b,e,hB,rG _ _ h.bs (GH (jE lim W) hl),λ_=>⟨b,e,hl,Xv hB⟩,jM h.lt (GH (jE lim W) hl).size⟩
noncomputable def NM:List lJ:=cO (cL (cR (cR (cB Tryz.f15))))
section
variable (g sb r:Nat)(nm tx:An)(li:Bool)(oi:Option kW)(ni ci:Nat)(F:vS)(er:Int)(lim:Nat)(Bs:M->Prop)
def Bu:Nat->jC
 |0=> nG (U (Z sb 0 V))
 |1=> nG (U (Z sb 0 V))
 |2=> nG (U (Z sb 0 V))
 |3=> nG (U (Z r 0 V))
 |4=> nI #[G nm,G tx,nH li,u oi ni ci]
 |5=> nJ #[nI #[Y nN F.id,G F.name,G F.body],Y X er]
 |6=> nJ #[nI #[Y nN F.id,G F.name,G F.body],Y X er]
 |7=> nI #[Y nN F.id,G F.name,G F.body]
 |8=> Y X er
 |11=> Y X er
 |_=>ku
structure a7m(D:Nat->Bool)(vs:Nat->jC)(w:M):Prop where
 oU:Tf Bs lim (Y nN F.id) (G F.name) (G F.body) (D 9) (D 10) (vs 9) w
 val:∀j,(j !=9)=R->D j=R->vs j=Bu sb r nm tx li oi ni ci F er j
variable {g sb r nm tx li oi ni ci F er lim Bs}
def a4v{D:Nat->Bool}{vs:Nat->jC}{w w':M}(h:a7m sb r nm tx li oi ni ci F er lim Bs D vs w){i:Nat}(hi:i≠9/\i≠10)(A:Tf Bs lim (Y nN F.id) (G F.name) (G F.body) (D 9) (D 10) (vs 9) w->Tf Bs lim (Y nN F.id) (G F.name) (G F.body) (D 9) (D 10) (vs 9) w'):a7m sb r nm tx li oi ni ci F er lim Bs (Aw D i) (Ay vs i (Bu sb r nm tx li oi ni ci F er i)) w':=by
 refine⟨?_,vM h.val⟩;rw[nZ D (show 9≠i by omega)];rw[nZ D (show 10≠i by omega)];rw[oG vs (Bu sb r nm tx li oi ni ci F er i) (show 9≠i by omega)];exact A h.oU
def a7n{id:Nat}{Q:Exit->Act->M->Prop}{ae:M}(ht0:a0.tmps.getD 0 ku=nG (U (Z sb 0 V)))(hb0:∀W,Bs W->W.cell? (Z sb 0 V)=U (nG (U (Z r 0 V))))(ht3:a0.tmps.getD 3 ku=nG (U (Z g 0 V)))(WO:∀W,Bs W->nU W g #[G nm,G tx,nH li,u oi ni ci] Az)(rG:∀W J,Bs W->jD lim W J->Bs J)(henc:∀W,Bs W->jG jy 36 #[nG (U (Z r 0 V)),nI #[G nm,G tx,nH li,u oi ni ci]] W λe J=>e=nK (nJ #[nI #[Y nN F.id,G F.name,G F.body],Y X er])/\jD W.heap.size W J)(hsz:a0.tmps.size=44)(hI0:∀vs:Nat->jC,(λw=>Tf Bs lim (Y nN F.id) (G F.name) (G F.body) O O (vs 9) w) ae.drew)(af:∀(vs:Nat->jC) (w:M),Tf Bs lim (Y nN F.id) (G F.name) (G F.body) R R (vs 9) w->Q .normal {a0 with tmps:=(((((((((((a0.tmps.setIfInBounds 12 (nG (U (Z sb 0 V)))).setIfInBounds 13 (nG (U (Z sb 0 V)))).setIfInBounds 14 (nG (U (Z sb 0 V)))).setIfInBounds 15 (nG (U (Z r 0 V)))).setIfInBounds 16 (nI #[G nm,G tx,nH li,u oi ni ci])).setIfInBounds 17 (nJ #[nI #[Y nN F.id,G F.name,G F.body],Y X er])).setIfInBounds 11 (nJ #[nI #[Y nN F.id,G F.name,G F.body],Y X er])).setIfInBounds 18 (nI #[Y nN F.id,G F.name,G F.body])).setIfInBounds 19 (Y X er)).setIfInBounds 6 (vs 9)).setIfInBounds 7 (Y X er))} w):
  (kT id NM.toArray R).wp jy Q a0 ae:=by
 refine oF 12 44 (a7m sb r nm tx li oi ni ci F er lim Bs) nV hsz nV (.inl rfl) nV ?_ ?_ ?_;.exact q9
 .refine sM λA ax=> ?_
  clear hI0 af hsz;replace ht0:=H ht0;replace hb0:=H hb0;replace ht3:=H ht3;replace WO:=H WO;replace rG:=H rG;replace henc:=H henc;dsimp+instances only[NM,cO,cL,cR,cB,Tryz.f15];simp only[jY,kJ,rZ];refine⟨?_,?_,?_,?_,?_,?_,?_,?_,?_,?_,?_,?_,trivial⟩<;>(intro D vs a w am hI hd E ag C N;subst ax;dsimp+instances only[NM,cO,cL,cR,cB,Tryz.f15]);have aH:=(C 0 nT).trans ht0.out;rotate_left;have aC:=fe C hI.val E 12 0;rotate_left;have aD:=fe C hI.val E 13 1;rotate_left;have hb0:=hb0.out;have ah:=fe C hI.val E 14 2;simp only[Bu]at ah;have c0:=hb0 w hI.oU.bs;rotate_left;have WO:=WO.out;have e3:=(C 3 nT).trans ht3.out;have hB:=WO w hI.oU.bs;obtain⟨c0,c1,c2,c3⟩:=hB.a4;clear hB;rotate_left
  .have rG:=rG.out
   have henc:=henc.out;have ai:=fe C hI.val E 15 3;have aj:=fe C hI.val E 16 4;simp only[Bu]at ai aj;have ay:=henc w hI.oU.bs;clear henc;rw[AC (by rfl)];go_simp;refine ay.mono ?_;rintro e aI ⟨rfl,hb⟩;exact N (Bu sb r nm tx li oi ni ci F er 5) _ _ rfl (a4v hI (i:=5) nT λh=>h.below rG hb)
  have aF:=fe C hI.val E 17 5;rotate_left;have ak:=fe C hI.val E 11 6;rotate_left;have ak:=fe C hI.val E 11 6;rotate_left
  .have rG:=rG.out
   have I:=hI.oU;have d10:=ag 10 nT nV;rw[hd,d10]at I;go_simp;refine N (nG (U (Z w.heap.size 0 V))) _ _ rfl ⟨?_,QY rfl hI.val⟩;rw[oH,nZ D (show 10≠9 by decide),qz,d10];exact I.made rG
  .have rG:=rG.out
   have d9:=E 9 nT nV;have au:a.tmps.getD 6 ku=vs 9:=C 6 nT;have av:=fe C hI.val E 18 7;simp only[Bu]at av;have I:=hI.oU;rw[d9,hd]at I;obtain⟨b,ev,hB,az⟩:=I.fill rG;have au:=au.trans ev;have z0:=hB.cell 0;have aA:=hB.cell 1;have aB:=hB.cell 2;obtain⟨aJ,f1,f2⟩:=hB.f3;simp only[zf3,jV,jS,jT]at z0 aA aB;go_simp;rw[a01];refine N ku _ _ rfl ⟨?_,vM hI.val⟩;rw[oH,nZ D (show 9≠10 by decide),oG vs _ (show 9≠10 by decide),d9];exact az
  have aG:=fe C hI.val E 19 8;rotate_left
  all_goals
   try simp only[Bu]at*
   go_simp;exact N _ _ _ rfl ⟨hI.oU,vM hI.val⟩
 .intro D vs w aa hI
  have E:=hI.oU;rw[aa 9 nT]at E;rw[aa 10 nT]at E;have q:=af vs w E;rw[pE hI.val aa];dsimp+instances only[NM,cO,cL,cR,cB,Tryz.f15];exact q8
end
noncomputable def NP:List lJ:=cO (cL (cR (cR (cR (cR (cB Tryz.f15))))))
section
variable (sb r fb:Nat)(c:oO)(F:vS)(T:An)(er:Int)(Bs:M->Prop)
def Bv:Nat->jC
 |0=> nG (U (Z sb 0 V))
 |1=> nG (U (Z sb 0 V))
 |2=> nG (U (Z sb 0 V))
 |3=> nG (U (Z r 0 V))
 |4=> nI #[Y X c.fmt,Y nO c.mag,Y X c.pV,Y X c.qH,Y X c.dep,Y X c.pq]
 |5=> nI #[Y nN F.id,G F.name,G F.body]
 |6=> nJ #[G T,Y X er]
 |7=> nJ #[G T,Y X er]
 |8=> G T
 |9=> Y X er
 |10=> G T
 |11=> Y X er
 |_=>ku
structure a7o(D:Nat->Bool)(vs:Nat->jC)(w:M):Prop where
 oU:Bs w
 val:∀j,(R)=R->D j=R->vs j=Bv sb r c F T er j
variable {sb r fb c F T er Bs}
def Vv{D:Nat->Bool}{vs:Nat->jC}{w w':M}(h:a7o sb r c F T er Bs D vs w){i:Nat}(hi:True)(A:Bs w->Bs w'):a7o sb r c F T er Bs (Aw D i) (Ay vs i (Bv sb r c F T er i)) w':=by
 refine⟨?_,vM h.val⟩;exact A h.oU
def a7p{id:Nat}{Q:Exit->Act->M->Prop}{aa:M}(ht0:a0.tmps.getD 0 ku=nG (U (Z sb 0 V)))(hb0:∀W,Bs W->W.cell? (Z sb 0 V)=U (nG (U (Z r 0 V))))(rG:∀W I,Bs W->jD W.heap.size W I->Bs I)(Tg:∀W,Bs W->jG jy 38 #[nG (U (Z r 0 V))] W λe I=>e=nK (nI #[Y X c.fmt,Y nO c.mag,Y X c.pV,Y X c.qH,Y X c.dep,Y X c.pq])/\jD W.heap.size W I)(BR:a0.tmps.getD 6 ku=nG (U (Z fb 0 V)))(hbf:∀W,Bs W->nU W fb #[Y nN F.id,G F.name,G F.body] rq)(hput:∀W,Bs W->jG jy 37 #[nI #[Y X c.fmt,Y nO c.mag,Y X c.pV,Y X c.qH,Y X c.dep,Y X c.pq],nI #[Y nN F.id,G F.name,G F.body]] W (qi T er W))(hsz:a0.tmps.size=44)(hI0:∀vs:Nat->jC,(λw=>Bs w) aa.drew)(ae:∀(vs:Nat->jC) (w:M),Bs w->Q .normal {a0 with tmps:=((((((((((((a0.tmps.setIfInBounds 24 (nG (U (Z sb 0 V)))).setIfInBounds 25 (nG (U (Z sb 0 V)))).setIfInBounds 26 (nG (U (Z sb 0 V)))).setIfInBounds 27 (nG (U (Z r 0 V)))).setIfInBounds 28 (nI #[Y X c.fmt,Y nO c.mag,Y X c.pV,Y X c.qH,Y X c.dep,Y X c.pq])).setIfInBounds 29 (nI #[Y nN F.id,G F.name,G F.body])).setIfInBounds 30 (nJ #[G T,Y X er])).setIfInBounds 23 (nJ #[G T,Y X er])).setIfInBounds 31 (G T)).setIfInBounds 32 (Y X er)).setIfInBounds 8 (G T)).setIfInBounds 7 (Y X er))} w):
  (kT id NP.toArray R).wp jy Q a0 aa:=by
 refine oF 12 44 (a7o sb r c F T er Bs) nV hsz nV (.inl rfl) nV ?_ ?_ ?_;.exact q9
 .refine sM λA ak=> ?_
  clear hI0 ae hsz;replace ht0:=H ht0;replace hb0:=H hb0;replace rG:=H rG;replace Tg:=H Tg;replace BR:=H BR;replace hbf:=H hbf;replace hput:=H hput;dsimp+instances only[NP,cO,cL,cR,cB,Tryz.f15];simp only[jY,kJ,rZ];refine⟨?_,?_,?_,?_,?_,?_,?_,?_,?_,?_,?_,?_,trivial⟩<;>(intro D vs a w am hI hd E ax C J;subst ak;dsimp+instances only[NP,cO,cL,cR,cB,Tryz.f15]);have aD:=(C 0 nT).trans ht0.out;rotate_left;have ay:=fe C hI.val E 24 0;rotate_left;have az:=fe C hI.val E 25 1;rotate_left;have hb0:=hb0.out;have af:=fe C hI.val E 26 2;simp only[Bv]at af;have c0:=hb0 w hI.oU;rotate_left
  .have rG:=rG.out
   have Tg:=Tg.out;have ag:=fe C hI.val E 27 3;simp only[Bv]at ag;have N:=Tg w hI.oU;clear Tg;rw[AC (by rfl)];go_simp;refine N.mono ?_;rintro e au ⟨rfl,hb⟩;exact J (Bv sb r c F T er 4) _ _ rfl (Vv hI (i:=4) nT λh=>rG _ _ h hb)
  have hbf:=hbf.out;have aF:=(C 6 nT).trans BR.out;have hB:=hbf w hI.oU;obtain⟨c0,c1,c2⟩:=hB.a3;clear hB;rotate_left
  .have rG:=rG.out
   have hput:=hput.out;have ah:=fe C hI.val E 28 4;have ai:=fe C hI.val E 29 5;simp only[Bv]at ah ai;have N:=hput w hI.oU;clear hput;rw[AC (by rfl)];go_simp;refine N.mono ?_;rintro e au ⟨rfl,hb⟩;exact J (Bv sb r c F T er 6) _ _ rfl (Vv hI (i:=6) nT λh=>rG _ _ h hb)
  have aA:=fe C hI.val E 30 6;rotate_left;have aj:=fe C hI.val E 23 7;rotate_left;have aj:=fe C hI.val E 23 7;rotate_left;have aB:=fe C hI.val E 31 8;rotate_left;have aC:=fe C hI.val E 32 9;rotate_left
  all_goals
   try simp only[Bv]at*
   go_simp;exact J _ _ _ rfl ⟨hI.oU,vM hI.val⟩
 .intro D vs w av hI
  have E:=hI.oU;have q:=ae vs w E;rw[pE hI.val av];dsimp+instances only[NP,cO,cL,cR,cB,Tryz.f15];exact q8
end
def yc(A:Int)(T:An)(C:Int):An×Int:=if A≠0 then(⟨#[]⟩,A)else if C≠0 then(⟨#[]⟩,C)else(T,0)
def Ao.b0K{w0:M}{an:Nat->Prop}{sb r:Nat}{bv:jC}{buf:List Ax}{nd fa la tt se:Int}{W:M}(h:Ao w0 an sb r bv buf nd fa la tt se W)(x:Int):Ao w0 an sb r bv buf nd fa la tt x (W.setCell (Z sb 6 V) (Y X x)):=⟨h.ss.set 6 _,h.kp 6 _,h.bwp 6 _,h.lt,h.fr⟩
def Xw(an:Nat->Prop)(sb r bn bi:Nat)(c:oO)(L:List oV)(buf:List Ax)(nd fa:Int)(nm tx:An)(li:Bool)(oi:Option kW)(ni ci:Nat)(F:vS)(A C:Int)(T:An)(w:M)(hs:Ac w an r sb buf nd fa)(ag:∀W,jD w.heap.size w W->qG r bn bi c L W)(henc:∀W,jD w.heap.size w W->jG jy 36 #[nG (U (Z r 0 V)),nI #[G nm,G tx,nH li,u oi ni ci]] W λe aQ=>e=nK (nJ #[nI #[Y nN F.id,G F.name,G F.body],Y X A])/\jD W.heap.size W aQ)(hput:A=0->∀W,jD w.heap.size w W->jG jy 37 #[nI #[Y X c.fmt,Y nO c.mag,Y X c.pV,Y X c.qH,Y X c.dep,Y X c.pq],nI #[Y nN F.id,G F.name,G F.body]] W (qi T C W)):
  jG jy 15 #[nG (U (Z sb 0 V)),nI #[G nm,G tx,nH li,u oi ni ci]] w λe w'=>e=nK (nJ #[G (yc A T C).1,Y X (yc A T C).2])/\Ac w' an r sb buf nd fa/\rF an w w':=by
 obtain⟨bv,la,tt,se,aa,aB,ah,ai⟩:=hs;obtain⟨g,hg⟩:=og w.heap.size;have aT:=H (show Ao w an sb r bv buf nd fa la tt se w from⟨aa,aB,rF.refl an w,⟨ah,aa.lt⟩,λb hb=> .inl (ai b hb)⟩);have I:=H (jF ah ai);have aC:jI (∀W,w.alloc (nL #[G nm,G tx,nH li,u oi ni ci] Az)=W->jD g w W/\nU W g #[G nm,G tx,nH li,u oi ni ci] Az/\W.heap.size=g+1):=H λW hW=>by
  exact Vq
 have aU:=H aa;have aL:=H henc;have aM:=H hput;have aN:=H ag;have aV:jI (sb<g):=H (hg▸aa.lt);obtain⟨aW,aj⟩:=og (yc A T C);have ak:=H aj;rw[aj];obtain⟨RT,aO⟩:=aW;dsimp only;clear aa aB ah ai ag henc hput aj;go_in;go_upto_region 3 with fail;obtain⟨aD,aF,aG⟩:=aC.out _ rfl;generalize w.alloc _=w1 at*;have af:=H (jF aD (jF aF aG));clear aC aD aF aG;have au:∀W,jD (g+1) w1 W->jD g w W:=λW hW=>af.1.trans (hW.mono (kR g))
 have av:∀W,jD (g+1) w1 W->nU W sb (GG r bv nd fa la tt se) LJ:=λW hW=>Below.blk (au W hW) aU aV.out
 have hb0:∀W,jD (g+1) w1 W->W.cell? (Z sb 0 V)=U (nG (U (Z r 0 V))):=λW hW=>(av W hW).cell 0
 have WO:∀W,jD (g+1) w1 W->nU W g #[G nm,G tx,nH li,u oi ni ci] Az:=λW hW=>Below.blk hW af.2.1 (lF g)
 have ax:Tf (jD (g+1) w1) (g+1) (Y nN F.id) (G F.name) (G F.body) O O ku w1.drew:=⟨(oM w1).mono (by rw[af.2.2];exact jB _),(λh=>by cases h),by rw[<-af.2.2];exact(oM w1).size⟩;have ay:=H au;refine a7n (g:=g) (sb:=sb) (r:=r) (nm:=nm) (tx:=tx) (li:=li) (oi:=oi) (ni:=ni) (ci:=ci) (F:=F) (er:=A) (lim:=g+1) (Bs:=jD (g+1) w1) (ht0:=by rfl) (ht3:=by rfl) (hb0:=hb0) (WO:=WO) (rG:=λ_ _ h hb=>h.trans hb) (henc:=λW hW=>aL.out W (hg.symm▸ay.out W hW)) (hsz:=by rfl) (hI0:=λ_=>⟨ax.bs,(λh=>by cases h),ax.lt⟩) ?_;intro vs N hF;obtain⟨fb,ev,aR,aH⟩:=hF.al rfl;have aI:Ao w an sb r bv buf nd fa la tt se N:=aT.below (hg.symm▸ay.out N hF.bs);have E:=H (jF hF.bs (jF (aH:nU N fb #[Y nN F.id,G F.name,G F.body] rq) (jF aI hF.lt)));clear hF aR aH aI ax au av hb0 WO;simp only[jH,jQ,jR];rw[ev];by_cases az:A=0
 .subst az
  go_upto_region 6 with fail;have aJ:∀W,jD N.heap.size N W->jD g w W:=λW hW=>(ay N E.1).trans (hW.mono (by have:=E.2.2.2;omega))
  have aK:=H aJ;refine a7p (sb:=sb) (r:=r) (fb:=fb) (c:=c) (F:=F) (T:=T) (er:=C) (Bs:=jD N.heap.size N) (ht0:=by rfl) (BR:=by rfl) (hb0:=λW hW=>(Below.blk hW E.2.2.1.ss E.2.2.1.ss.lt).cell 0) (rG:=λW aQ h hb=>h.trans (hb.mono h.size)) (Tg:=λW hW=>JJ r bn bi c L W (aN W (hg.symm▸aK.out W hW))) (hbf:=λW hW=>Below.blk hW E.2.1 E.2.1.lt) (hput:=λW hW=>aM.out rfl W (hg.symm▸aK.out W hW)) (hsz:=by rfl) (hI0:=λ_=>oM N) ?_;intro aX aY aS;have J:=H (E.2.2.1.below aS);clear aS aJ;simp only[jH,jQ,jR];by_cases aA:C=0
  .subst aA
   have ae:jI (RT=T/\aO=0):=H (by have:=ak.out;unfold yc at this;rw[As nX,As nX]at this;injection this with a b;exact⟨a.symm,b.symm⟩);have c6:=J.ss.cell 6;have aZ:=J.ss.free 6;simp only[GG,jV,jS,jT]at c6;go_wp2;try go_returns
   refine⟨by rw[ae.1,ae.2];rfl,?_⟩;have aP:=λx=>J.b0K x
   exact⟨⟨_,_,_,_,(aP _).ss,(aP _).ob,I.1,I.2⟩,(aP _).bw⟩
  .have bg:(C !=0)=R:=by simp[aA]
   have ae:jI (RT=⟨#[]⟩/\aO=C):=H (by have:=ak.out;unfold yc at this;rw[As nX,AC aA]at this;injection this with a b;exact⟨a.symm,b.symm⟩);clear aA;go_wp2;try go_returns
   exact⟨by rw[ae.1,ae.2];rfl,⟨_,_,_,_,J.ss,J.ob,I.1,I.2⟩,J.bw⟩
 .have bq:(A !=0)=R:=by simp[az]
  have ae:jI (RT=⟨#[]⟩/\aO=A):=H (by have:=ak.out;unfold yc at this;rw[AC az]at this;injection this with a b;exact⟨a.symm,b.symm⟩);clear az;go_wp2;try go_returns
  exact⟨by rw[ae.1,ae.2];rfl,⟨_,_,_,_,E.2.2.1.ss,E.2.2.1.ob,I.1,I.2⟩,E.2.2.1.bw⟩
def EA{an:Nat}{w W:M}(k:rF (λb=>an<=b) w W)(hG:an<=w.heap.size):jD an w W:=k.below (λc hc A=>by have A:an<=c:=A;omega) hG
end
section
open Go.RowKit
abbrev WfT:jX:=141
def Xx:Array jC:=#[.nilFunc,.nilFunc,.nilFunc,.nilFunc]
structure Vw(Bs:M->Prop)(lim:Nat)(x y z ao:jC)(da ds:Bool)(va:jC)(W:M):Prop where
 bs:Bs W
 al:da=R->∃b,va=nG (U (Z b 0 V))/\lim<=b/\nU W b (if ds=R then#[x,y,z,ao]else Xx) WfT
 lt:lim<=W.heap.size
section
variable {Bs:M->Prop}{lim:Nat}{x y z ao:jC}{da ds:Bool}{va:jC}{W W':M}
def Vw.below(rG:∀W W',Bs W->jD lim W W'->Bs W')(h:Vw Bs lim x y z ao da ds va W)(hb:jD W.heap.size W W'):Vw Bs lim x y z ao da ds va W':=by
 exact Vu
def Vw.made(rG:∀W W',Bs W->jD lim W W'->Bs W')(h:Vw Bs lim x y z ao O O va W):Vw Bs lim x y z ao R O (nG (U (Z W.heap.size 0 V))) (W.alloc (nL Xx WfT)):=
 ⟨rG _ _ h.bs ((jE lim W).alloc h.lt _),λ_=>⟨_,rfl,h.lt,nU.new W Xx WfT⟩,by have:=h.lt;simp;omega⟩
def Vw.fill(rG:∀W W',Bs W->jD lim W W'->Bs W')(h:Vw Bs lim x y z ao R O va W):∃b,va=nG (U (Z b 0 V))/\nU W b Xx WfT/\Vw Bs lim x y z ao R R va (zV W b x y z ao):=by
 obtain⟨b,e,hl,hB⟩:=h.al rfl;have hB:nU W b Xx WfT:=hB;exact⟨b,e,hB,rG _ _ h.bs (uJ (jE lim W) hl),λ_=>⟨b,e,hl,sj hB⟩,jM h.lt (uJ (jE lim W) hl).size⟩
end
noncomputable def Ij:List lJ:=cO (cL (cR (cR (cB Tryz.f37))))
section
variable (g:Nat)(c:oO)(f1 f2 f3 f4:FuncId)(lim:Nat)(Bs:M->Prop)
def Ad:Nat->jC
 |0=> nI Au
 |1=> nG (U (Z g 0 V))
 |2=> Y X c.fmt
 |3=> nI #[.func (.func f1) #[] #[],.func (.func f2) #[] #[],.func (.func f3) #[] #[],.func (.func f4) #[] #[]]
 |_=>ku
structure a02(D:Nat->Bool)(vs:Nat->jC)(w:M):Prop where
 oU:Vw Bs lim (.func (.func f1) #[] #[]) (.func (.func f2) #[] #[]) (.func (.func f3) #[] #[]) (.func (.func f4) #[] #[]) (D 4) (D 5) (vs 4) w
 val:∀j,(j !=4)=R->D j=R->vs j=Ad g c f1 f2 f3 f4 j
variable {g c f1 f2 f3 f4 lim Bs}
def a03{D:Nat->Bool}{vs:Nat->jC}{w w':M}(h:a02 g c f1 f2 f3 f4 lim Bs D vs w){i:Nat}(hi:i≠4/\i≠5)(A:Vw Bs lim (.func (.func f1) #[] #[]) (.func (.func f2) #[] #[]) (.func (.func f3) #[] #[]) (.func (.func f4) #[] #[]) (D 4) (D 5) (vs 4) w->Vw Bs lim (.func (.func f1) #[] #[]) (.func (.func f2) #[] #[]) (.func (.func f3) #[] #[]) (.func (.func f4) #[] #[]) (D 4) (D 5) (vs 4) w'):a02 g c f1 f2 f3 f4 lim Bs (Aw D i) (Ay vs i (Ad g c f1 f2 f3 f4 i)) w':=by
 refine⟨?_,vM h.val⟩;rw[nZ D (show 4≠i by omega)];rw[nZ D (show 5≠i by omega)];rw[oG vs (Ad g c f1 f2 f3 f4 i) (show 4≠i by omega)];exact A h.oU
def a4w{id:Nat}{Q:Exit->Act->M->Prop}{aa:M}(rG:∀W ae,Bs W->jD lim W ae->Bs ae)(ht2:a0.tmps.getD 2 ku=nG (U (Z g 0 V)))(hbc:∀W,Bs W->W.cell? (Z g 0 V)=U (Y X c.fmt))(hix:∀W,lL jy (kP 142 (nI Au) (Y X c.fmt)) W=.ok (nI #[.func (.func f1) #[] #[],.func (.func f2) #[] #[],.func (.func f3) #[] #[],.func (.func f4) #[] #[]]) W)(hsz:a0.tmps.size=48)(hI0:∀vs:Nat->jC,(λw=>Vw Bs lim (.func (.func f1) #[] #[]) (.func (.func f2) #[] #[]) (.func (.func f3) #[] #[]) (.func (.func f4) #[] #[]) O O (vs 4) w) aa.drew)(af:∀(vs:Nat->jC) (w:M),Vw Bs lim (.func (.func f1) #[] #[]) (.func (.func f2) #[] #[]) (.func (.func f3) #[] #[]) (.func (.func f4) #[] #[]) R R (vs 4) w->Q .normal {a0 with tmps:=(((((a0.tmps.setIfInBounds 15 (nI Au)).setIfInBounds 16 (nG (U (Z g 0 V)))).setIfInBounds 17 (Y X c.fmt)).setIfInBounds 18 (nI #[.func (.func f1) #[] #[],.func (.func f2) #[] #[],.func (.func f3) #[] #[],.func (.func f4) #[] #[]])).setIfInBounds 6 (vs 4))} w):
  (kT id Ij.toArray R).wp jy Q a0 aa:=by
 refine oF 6 48 (a02 g c f1 f2 f3 f4 lim Bs) nV hsz nV (.inl rfl) nV ?_ ?_ ?_;.exact q9
 .refine sM λA av=> ?_
  clear hI0 af hsz;replace rG:=H rG;replace ht2:=H ht2;replace hbc:=H hbc;replace hix:=H hix;dsimp+instances only[Ij,cO,cL,cR,cB,Tryz.f37];simp only[jY,kJ,rZ];refine⟨?_,?_,?_,?_,?_,?_,trivial⟩<;>(intro D vs a w am hI hd E ag C J;subst av;dsimp+instances only[Ij,cO,cL,cR,cB,Tryz.f37])
  .have rG:=rG.out
   have ax:=D6 w;rw[AC (by rfl)];go_simp;refine ax.mono ?_;rintro e aB ⟨rfl,hb⟩;exact J (Ad g c f1 f2 f3 f4 0) _ _ rfl (a03 hI (i:=0) nT λh=>h.below rG hb)
  have e2:=(C 2 nT).trans ht2.out;rotate_left;have hbc:=hbc.out;have ah:=fe C hI.val E 16 1;simp only[Ad]at ah;have c0:=hbc w hI.oU.bs;rotate_left;have hix:=hix.out;have ai:=fe C hI.val E 15 0;have aj:=fe C hI.val E 17 2;simp only[Ad]at ai aj;have q:=hix w;rotate_left
  .have rG:=rG.out
   have I:=hI.oU;have d5:=ag 5 nT nV;rw[hd,d5]at I;go_simp;refine J (nG (U (Z w.heap.size 0 V))) _ _ rfl ⟨?_,QY rfl hI.val⟩;rw[oH,nZ D (show 5≠4 by decide),qz,d5];exact I.made rG
  .have rG:=rG.out
   have d4:=E 4 nT nV;have ak:a.tmps.getD 6 ku=vs 4:=C 6 nT;have au:=fe C hI.val E 18 3;simp only[Ad]at au;have I:=hI.oU;rw[d4,hd]at I;obtain⟨b,ev,hB,ay⟩:=I.fill rG;have ak:=ak.trans ev;have z0:=hB.cell 0;have az:=hB.cell 1;have aA:=hB.cell 2;have z3:=hB.cell 3;obtain⟨aC,aD,aF,aG⟩:=hB.f4;simp only[Xx,jV,jS,jT]at z0 az aA z3;go_simp;rw[uB];refine J ku _ _ rfl ⟨?_,vM hI.val⟩;rw[oH,nZ D (show 4≠5 by decide),oG vs _ (show 4≠5 by decide),d4];exact ay
  all_goals
   go_simp;exact J _ _ _ rfl ⟨hI.oU,vM hI.val⟩
 .intro D vs w N hI
  have E:=hI.oU;rw[N 4 nT]at E;rw[N 5 nT]at E;have q:=af vs w E;rw[pE hI.val N];dsimp+instances only[Ij,cO,cL,cR,cB,Tryz.f37];exact q8
end
end
section
open Go.RowKit Go.Maps
def EB(A:Bool)(P:An)(er:Int)(C:Nat):An×Int:=
 if A=O then(⟨#[]⟩,1)else if er≠0 then(⟨#[]⟩,er)else if C=5 then(⟨#[]⟩,5)else(P,0)
def wpB{g b:Nat}{c1 c2 c3:Array jC}{C E t3:jX}{w W A:M}(h:nU W g c1 C/\nU W (g+1) c2 E/\jD w.heap.size w W/\nU W b c3 t3)(hb:jD W.heap.size W A):
  nU A g c1 C/\nU A (g+1) c2 E/\jD w.heap.size w A/\nU A b c3 t3:=
 ⟨Below.blk hb h.1 h.1.lt,Below.blk hb h.2.1 h.2.1.lt,h.2.2.1.trans (hb.mono h.2.2.1.size),Below.blk hb h.2.2.2 h.2.2.2.lt⟩
def a04{p:Prop}(h:p:=by
 have a1:=(jE w.heap.size w).alloc (jB _) (nL #[Y X c.fmt,Y nO c.mag,Y X c.pV,Y X c.qH,Y X c.dep,Y X c.pq] uk);have k2:=nU.new (w.alloc (nL #[Y X c.fmt,Y nO c.mag,Y X c.pV,Y X c.qH,Y X c.dep,Y X c.pq] uk)) #[Y nN F.id,G F.name,G F.body] rq;rw[show(w.alloc (nL #[Y X c.fmt,Y nO c.mag,Y X c.pV,Y X c.qH,Y X c.dep,Y X c.pq] uk)).heap.size=g+1 by simp[hg]]at k2;exact⟨(hg▸nU.new w _ _:nU _ g _ _).alloc _,k2,a1.alloc nX _⟩):p:=h
def Xy(c:oO)(F:vS)(f1 f2 f3 f4:FuncId)(I:Bool)(P:An)(er:Int)(y:UU)(w:M)(hc:oL c=R)(hix:∀W,lL jy (kP 142 (nI Au) (Y X c.fmt)) W=.ok (nI #[.func (.func f1) #[] #[],.func (.func f2) #[] #[],.func (.func f3) #[] #[],.func (.func f4) #[] #[]]) W)(aT:∀a W,lL jy (callFunc f1 #[a]) W=.ok (.enter f1 #[a]) W)(aU:∀a b W,lL jy (callFunc f2 #[a,b]) W=.ok (.enter f2 #[a,b]) W)(aV:∀a b d W,lL jy (callFunc f3 #[a,b,d]) W=.ok (.enter f3 #[a,b,d]) W)(ak:∀W,jG jy f1 #[nI #[Y nN F.id,G F.name,G F.body]] W λe w'=>e=nK (nH I)/\jD W.heap.size W w')(hput:I=R->∀W,jD w.heap.size w W->jG jy f2 #[nI #[Y X c.fmt,Y nO c.mag,Y X c.pV,Y X c.qH,Y X c.dep,Y X c.pq],nI #[Y nN F.id,G F.name,G F.body]] W (qi P er W))(hnext:er=0->∀W,jG jy f3 #[nI #[Y X c.fmt,Y nO c.mag,Y X c.pV,Y X c.qH,Y X c.dep,Y X c.pq],nG V,G P] W λe w'=>e=nK (nJ #[nI #[Y nN y.id,G y.name,G y.body],Y X y.n,Y X y.e])/\jD W.heap.size W w'):
  jG jy 37 #[nI #[Y X c.fmt,Y nO c.mag,Y X c.pV,Y X c.qH,Y X c.dep,Y X c.pq],nI #[Y nN F.id,G F.name,G F.body]] w (qi (EB I P er y.e).1 (EB I P er y.e).2 w):=by
 obtain⟨g,hg⟩:=og w.heap.size;have az:jI (∀W,(w.alloc (nL #[Y X c.fmt,Y nO c.mag,Y X c.pV,Y X c.qH,Y X c.dep,Y X c.pq] uk)).alloc (nL #[Y nN F.id,G F.name,G F.body] rq)=W->nU W g #[Y X c.fmt,Y nO c.mag,Y X c.pV,Y X c.qH,Y X c.dep,Y X c.pq] uk/\nU W (g+1) #[Y nN F.id,G F.name,G F.body] rq/\jD w.heap.size w W):=H λW aI=>by
  subst aI;exact a04
 have aK:jI (∀W,jG jy 67 #[nI #[Y X c.fmt,Y nO c.mag,Y X c.pV,Y X c.qH,Y X c.dep,Y X c.pq]] W λe w'=>e=nK (nH R)/\jD W.heap.size W w'):=H λW=>hc▸Dl c W
 have aP:=H ak;have aQ:=H hput;have aR:=H hnext;have aA:=H hix;obtain⟨aL,au⟩:=og (EB I P er y.e);have ax:=H au;obtain⟨aS,aJ⟩:=og (qi aL.1 aL.2 w);have ay:=H aJ;rw[au,aJ];clear hc hix ak hput hnext aJ au;go_in;go_upto_region 1 with fail;obtain⟨av,aB,aC⟩:=az.out _ rfl;generalize (w.alloc _).alloc _=w1 at*;obtain⟨c0,c1,c2,c3,c4,c5⟩:=av.a6;have E:=H (jF av (jF aB aC));clear av aB aC az;go_wp2_with fail;refine(aK _).mono ?_;rintro e w2 ⟨rfl,af⟩;have A:jI (nU w2 g #[Y X c.fmt,Y nO c.mag,Y X c.pV,Y X c.qH,Y X c.dep,Y X c.pq] uk/\nU w2 (g+1) #[Y nN F.id,G F.name,G F.body] rq/\jD w.heap.size w w2):=H ⟨Below.blk af E.1 E.1.lt,Below.blk af E.2.1 E.2.1.lt,E.2.2.trans (af.mono E.2.2.size)⟩;clear c0 c1 c2 c3 c4 c5 af E aK;go_upto_region 3 with fail;refine a4w (g:=g) (c:=c) (f1:=f1) (f2:=f2) (f3:=f3) (f4:=f4) (lim:=w2.heap.size) (Bs:=jD w2.heap.size w2) (ht2:=by rfl) (rG:=λ_ _ h hb=>h.trans hb) (hbc:=λW aI=>(Below.blk aI A.1 A.1.lt).cell 0) (hix:=aA.out) (hsz:=by rfl) (hI0:=λ_=>⟨oM w2,(λh=>by cases h),(oM w2).size⟩) ?_;intro vs W3 hF;obtain⟨b,ev,aM,aD⟩:=hF.al rfl;have ag:jI (nU W3 g #[Y X c.fmt,Y nO c.mag,Y X c.pV,Y X c.qH,Y X c.dep,Y X c.pq] uk/\nU W3 (g+1) #[Y nN F.id,G F.name,G F.body] rq/\jD w.heap.size w W3/\nU W3 b #[.func (.func f1) #[] #[],.func (.func f2) #[] #[],.func (.func f3) #[] #[],.func (.func f4) #[] #[]] WfT):=H ⟨Below.blk hF.bs A.1 A.1.lt,Below.blk hF.bs A.2.1 A.2.1.lt,A.2.2.trans (hF.bs.mono A.2.2.size),aD⟩;clear hF aM aD A aA;simp only[jH,jQ,jR];rw[ev];obtain⟨J,N,aa⟩:=ag.2.2.2.a3;obtain⟨c0,c1,c2,c3,c4,c5⟩:=ag.1.a6;obtain⟨z0,ai,aj⟩:=ag.2.1.a3;go_wp2_with fail;refine(aP _).mono ?_;rintro e aW ⟨rfl,aF⟩;have C:=H (wpB ag aF);clear aF J N aa c0 c1 c2 c3 c4 c5 z0 ai aj;cases I with
 |false=>
  obtain⟨J,N,aa⟩:=C.2.2.2.a3;obtain⟨c0,c1,c2,c3,c4,c5⟩:=C.1.a6;obtain⟨z0,ai,aj⟩:=C.2.1.a3;go_wp2;try go_returns
  rw[<-ay.out,<-ax.out];exact⟨by rfl,C.2.2.1⟩
 |true=>
  obtain⟨J,N,aa⟩:=C.2.2.2.a3;obtain⟨c0,c1,c2,c3,c4,c5⟩:=C.1.a6;obtain⟨z0,ai,aj⟩:=C.2.1.a3;go_wp2_with fail;refine(aQ (by trivial) _ C.2.2.1).mono ?_;rintro e aX ⟨rfl,aG⟩;have ae:=H (wpB C aG);clear aG J N aa c0 c1 c2 c3 c4 c5 z0 ai aj;obtain⟨J,N,aa⟩:=ae.2.2.2.a3;obtain⟨c0,c1,c2,c3,c4,c5⟩:=ae.1.a6;obtain⟨z0,ai,aj⟩:=ae.2.1.a3;by_cases h0:er=0
  .subst h0
   go_wp2_with fail;refine(aR (by trivial) _).mono ?_;rintro e aY ⟨rfl,aH⟩;have ah:=H (wpB ae aH);clear aH J N aa c0 c1 c2 c3 c4 c5 z0 ai aj;by_cases aN:y.e=5
   .have aO:((y.e:Int)==5)=R:=Ot
    go_wp2;try go_returns
    rw[<-ay.out,<-ax.out];exact⟨by unfold EB;rw[As nT,As nT,AC aN];rfl,ah.2.2.1.trans ((jE _ _).alloc ah.2.2.1.size _)⟩
   .have aO:((y.e:Int)==5)=O:=vo
    go_wp2;try go_returns
    rw[<-ay.out,<-ax.out];exact⟨by unfold EB;rw[As nT,As nT,As aN];rfl,ah.2.2.1.trans ((jE _ _).alloc ah.2.2.1.size _)⟩
  .have aO:((er:Int)==0)=O:=by rw[beq_eq_false_iff_ne];exact h0
   go_wp2;try go_returns
   rw[<-ay.out,<-ax.out];exact⟨by unfold EB;rw[As nT,AC h0];rfl,ae.2.2.1⟩
end
section
open Go.RowKit
section
variable {P:lQ}
def NQ(w:M)(N aa ty elem:jX)(g C I:Nat)(s:An)(A:Array jC)(t:jX)(ae:P.underlying N=U (.slice elem))(hs:(P.info? elem).map (·.size)=U 1)(hg:w.heap[g]? =U (.cells A t (0,0)))(hn:s.size<=C)(af:s.size<=A.size):
  (Builtin.copy_ #[N,aa] ty #[u (U (Z g 0 V)) C I,G s]).run P w=.ok (goInt s.size) (w.setRow g (oh s.data.toList++A.toList.drop s.size).toArray):=by
 have hl:(oh s.data.toList).length=s.size:=nX;have E:=run_storeCells_at P g 0 t (oh s.data.toList) 0 A w hg (by rw[hl];omega) (sH _);have he:(s.extract 0 s.size)=s:=nX;cases J:P.info? elem with
 |none=>simp[J]at hs
 |some i=>
  have hi:i.size=1:=by simpa [J]using hs
  simp[Builtin.copy_,run_underlying ae,Builtin.lenOf,Builtin.firstCells,sizeOf,typeInfo,J,hi,mr hn,he,oh]at E|-;have ht:List.take s.size (List.map (λb:Ax=>lC .u8 (b.toNat:Int)) s.data.toList)=List.map (λb:Ax=>lC .u8 (b.toNat:Int)) s.data.toList:=kS nX;rw[ht,E];rfl
end
def wZ(s:An):List Ax:=s.data.toList++ky (12 - s.size) 0
def Ae(s:An)(h:s.size<=12):(wZ s).length=12:=by simp[wZ];omega
def FO{s:An}(h:sJ s.data.toList=R):1<=s.size/\s.size<=12:=by
 simp only[sJ,jJ,decide_eq_true_eq]at h;have hl:s.data.toList.length=s.size:=nX;omega
def a4x(s:An)(w:M)(hs:s.size<=jN):
  jG jy 128 #[G s] w (qi (if sJ s.data.toList=R then⟨(wZ s).toArray⟩else⟨#[]⟩) (if sJ s.data.toList=R then 0 else 11) w):=by
 have I:=H (MP s w hs);cases C:sJ s.data.toList with
 |false=>
  rw[C]at I;rw[As nT,As nT];clear C;go_in;go_wp2_with fail;refine I.mono ?_;rintro e w2 ⟨rfl,rfl⟩;go_wp2;go_returns;exact⟨rfl,jE _ _⟩
 |true=>
  rw[C]at I;rw[AC rfl,AC rfl];have A:=FO C;have aj:=H A;obtain⟨T,N⟩:∃T,(⟨(wZ s).toArray⟩:An)=T:=⟨_,rfl⟩;have ak:=H N;rw[N];obtain⟨g,hg⟩:=og w.heap.size;have af:jI (∀W,w.alloc (nL (ky 12 (lC .u8 0)).toArray 214)=W->W.heap[g]? =U (nL (ky 12 (lC .u8 0)).toArray 214 (0,0))/\jD w.heap.size w W):=H λW h=>by
   subst h;exact⟨by rw[<-hg];exact nU.new w _ _,(jE _ w).alloc (jB _) _⟩
  clear C A N;go_in;go_wp2_with fail;refine I.mono ?_;rintro e w2 ⟨rfl,rfl⟩;go_upto_region 4 with fail;generalize ag:w2.alloc _=w3;obtain⟨hB,hb⟩:=af.out _ ag;clear ag;have A:=aj.out;have ah:jI (∀W,w3.setRow g (oh s.data.toList++(ky 12 (lC .u8 0)).toArray.toList.drop s.size).toArray=W->(convert 86 9 (u (U (Z g 0 V)) 12 12)).run jy W=.ok (G T) W/\jD w2.heap.size w2 W):=H λW h=>by
   subst h;have he:oh s.data.toList++(ky 12 (lC .u8 0)).toArray.toList.drop s.size=oh (wZ s):=by
    rw[wZ,pI];simp only[oh,List.map_replicate,List.drop_replicate,List.toList_toArray];rfl
   rw[he];have au:=setRow_heap w3 g _ (oh (wZ s)).toArray _ _ hB;have hl:=Ae s A.2;refine⟨?_,below_setRow hb K _⟩;have:=run_convert_bytes_back (P:=jy) (w3.setRow g (oh (wZ s)).toArray) 86 9 5 (Z g 0 V) 12 (wZ s) lq Tryz.underlying5 lU λj av=>by
    have aa:((Z g 0 V):kW).add j=(Z g j V):=GQ;rw[aa];simp only[mV,au];simp[oh,av]
   rw[hl,ak.out]at this;exact this
  have ae:=NQ (P:=jy) w3 86 9 3 5 g 12 12 s _ _ lq nV hB A.2 (by rw[lK,List.length_replicate];exact A.2);obtain⟨w4,E⟩:=og (w3.setRow g (oh s.data.toList++(ky 12 (lC .u8 0)).toArray.toList.drop s.size).toArray);rw[E]at ae;obtain⟨ax,J⟩:=ah.out _ E;have ai:=H J;clear ah J hB A hb af E;go_wp2;go_returns;exact⟨rfl,ai.out⟩
def EC(m:Nat)(nm b:An):List Ax:=vL 4 m++wZ nm++vL 4 b.size++checkN b.data.toList++b.data.toList
def vW(m:Nat)(nm b:An):An×Int:=if sJ nm.data.toList=R then if b.size<=65536 then(⟨(EC m nm b).toArray⟩,0)else(⟨#[]⟩,5)else(⟨#[]⟩,11)
def a05(m:Nat)(nm b:An)(w:M)(aA:m<4294967296)(hn:nm.size<=jN)(hb:b.size<=1000000000):
  jG jy 99 #[Y nO m,G nm,G b] w (qi (vW m nm b).1 (vW m nm b).2 w):=by
 have E:=H (a4x nm w hn);have aj:=H (λW=>vQ m 4 W K nT nT K);have aa:=H (λ(W:M) (h:b.size<=65536)=>Gs b W K);obtain⟨ar,J⟩:=og (vW m nm b);have I:=H J;rw[J];cases A:sJ nm.data.toList with
 |false=>
  rw[A]at E;have E:jI (jG jy 128 #[G nm] w (qi ⟨#[]⟩ 11 w)):=E;have HE:jI (ar=(⟨#[]⟩,11)):=H (by rw[<-I.out];unfold vW;rw[A];rfl);clear A J I aj aa;go_in;go_wp2_with fail;refine E.mono ?_;rintro e w2 ⟨rfl,C⟩;have HB2:=H C;clear C;exact Je
 |true=>
  rw[A]at E;have ak:=FO A;have hl:=Ae nm ak.2;have E:jI (jG jy 128 #[G nm] w (qi ⟨(wZ nm).toArray⟩ 0 w)):=E;by_cases N:b.size<=65536
  .have ax:At ((b.size:Int)>65536)=O:=nY
   have HE:jI (ar=(⟨(EC m nm b).toArray⟩,0)):=H (by rw[<-I.out];unfold vW;rw[A,AC rfl,AC N]);have au:=H (λW=>aa.out W N);have ay:=H (λW=>vQ b.size 4 W K nT nT K);have aB:(⟨(vL 4 m).toArray⟩:An).size=4:=by rw[size_mk,pY]
   have aC:(⟨(wZ nm).toArray⟩:An).size=12:=by rw[size_mk,hl]
   have aD:(⟨(vL 4 b.size).toArray⟩:An).size=4:=by rw[size_mk,pY]
   have aF:(⟨(checkN b.data.toList).toArray⟩:An).size=4:=by rw[size_mk,Cu]
   have az:jI ((⟨(vL 4 m).toArray⟩:An)++⟨(wZ nm).toArray⟩++⟨(vL 4 b.size).toArray⟩++⟨(checkN b.data.toList).toArray⟩++b=⟨(EC m nm b).toArray⟩):=H (by
    apply ByteArray.ext;apply Array.ext';simp[EC])
   generalize (⟨(vL 4 m).toArray⟩:An)=aG at*;generalize (⟨(wZ nm).toArray⟩:An)=aH at*;generalize (⟨(vL 4 b.size).toArray⟩:An)=t3 at*;generalize (⟨(checkN b.data.toList).toArray⟩:An)=t4 at*;clear A J I ak hl N aa;go_in;go_wp2_with fail;refine E.mono ?_;rintro e w2 ⟨rfl,C⟩;have HB2:=H C;clear C;go_wp2_with fail;refine(aj _).mono ?_;rintro e w3 ⟨rfl,ae⟩;have af:=H (HB2.trans (ae.mono HB2.size));clear ae;go_wp2_with fail;refine(ay _).mono ?_;rintro e w4 ⟨rfl,ag⟩;have ah:=H (af.trans (ag.mono af.size));clear ag;go_wp2_with fail;refine(au _).mono ?_;rintro e w5 ⟨rfl,ai⟩;have av:=H (ah.trans (ai.mono ah.size));clear ai;go_wp2;go_returns;exact⟨by rw[HE.out,<-az.out];rfl,av.out⟩
  .have ax:At ((b.size:Int)>65536)=R:=nY
   have HE:jI (ar=(⟨#[]⟩,5)):=H (by rw[<-I.out];unfold vW;rw[A,AC rfl,As N]);clear A J I aj aa ak hl N;go_in;go_wp2_with fail;refine E.mono ?_;rintro e w2 ⟨rfl,C⟩;have HB2:=H C;clear C;exact Je
def Qt(n:Nat):List Ax:=if n=0 then []else if n<=60 then [jU (4*(n - 1))]else if n<=256 then [240,jU (n - 1)]else 244::vL 2 (n - 1)
def uL(P:lQ)(g o:Nat)(t:jX)(C:Nat×Nat):∀(vs:List jC)(i:Nat)(A:Array jC)(w:M),w.heap[g]? =U (nL A t C)->(C.2<=C.1\/A.size<=C.1)->o+i+vs.length<=A.size->(∀v∈vs,v.oneCell'=R)->
  (storeCells (Z g o V) vs i).run P w=.ok () (w.setRow g (A.toList.take (o+i)++vs++A.toList.drop (o+i+vs.length)).toArray)
 |[],i,A,w,hg,_,_,_=>by
  simp only[storeCells,List.append_nil,List.length_nil,nk,mO,Array.toArray_toList];rw[setRow_self w g A t C hg];rfl
 |v::rest,i,A,w,hg,I,hl,aa=>by
  have hi:o+i<A.size:=by simp at hl;omega
  have J:((Z g o V):kW).add i=(Z g (o+i) V):=GQ;have E:w.cell? (Z g (o+i) V)=U A[o+i]:=by simp[mV,hg,hi]
  have N:w.frozen? (Z g (o+i) V)=O:=by
   obtain⟨lo,ae⟩:=C;simp only at I;have:¬(lo<=o+i/\o+i<ae):=K;simpa [World.frozen?,hg]using this
  have af:(store (((Z g o V):kW).add i) v).run P w=.ok () (w.setRow g (A.setIfInBounds (o+i) v)):=by
   rw[J,run_store P w _ v _ (aa v nX),E];simp[N,setCell_eq_setRow w g (o+i) A t C v hg]
  have ag:=uL P g o t C rest (i+1) (A.setIfInBounds (o+i) v) (w.setRow g (A.setIfInBounds (o+i) v)) (setRow_heap w g A _ t _ hg) (by simpa using I) (by simp at hl|-;omega) (λx ah=>aa x (by simp[ah]));simp only[storeCells,Sem.run_bind,af,Result.andThen_ok,ag,setRow_setRow];congr 3;have e:=list_seg_step A.toList (o+i) v rest (by simp at hl|-;omega);simpa [Array.toList_setIfInBounds,kK]using e
def qP(w:M)(B:Nat)(e:jX)(v:jC)(l:List Ax):Prop:=
 (v=u V 0 0/\l=[])\/∃g cap A C,v=u (U (Z g 0 V)) l.length cap/\B<=g/\w.heap[g]? =U (nL A e C)/\(C.2<=C.1\/A.size<=C.1)/\l.length<=cap/\cap<=jN/\A.size=cap/\A.toList.take l.length=oh l
section
variable {P:lQ}{t e s:jX}{w w':M}{B:Nat}{v:jC}{l:List Ax}
def qP.of(h:oI w B e v l):qP w B e v l:=by
 obtain⟨af,A⟩:=h;rcases A with⟨rfl,A⟩|⟨g,cap,C,E,hg,I,J,N,aa,ae⟩
 .exact .inl ⟨rfl,List.eq_nil_of_length_eq_zero A⟩
 .exact .inr ⟨g,cap,C,(0,0),E,hg,I,.inl (jB _),J,N,by simpa using aa,by simpa using ae⟩
def qP.blk(h:qP w B e v l):∀b,v.ownBlock=U b->B<=b/\b<w.heap.size:=by
 intro k hk;rcases h with⟨rfl,_⟩|⟨g,cap,A,C,rfl,hb,hg,_⟩
 .simp[kz]at hk
 .simp[kz]at hk
  subst hk;exact⟨hb,(j6.1 hg).1⟩
def qP.kp{F:Nat->Prop}(h:qP w B e v l)(k:rF F w w')(hn:∀b,v.ownBlock=U b->¬F b):qP w' B e v l:=by
 rcases h with h|⟨g,cap,A,I,C,hg,E,r⟩
 .exact .inl h
 .exact .inr ⟨g,cap,A,I,C,hg,by rw[k.block g (j6.1 E).1 (hn g (by rw[C];rfl))];exact E,r⟩
def qP.below(h:qP w B e v l)(hb:jD w.heap.size w w'):qP w' B e v l:=h.kp (F:=λ_=>False) (rF.of hb) λ_ _ h=>h
def qP.alloc(h:qP w B e v l)(o:Obj):qP (w.alloc o) B e v l:=h.below ((jE w.heap.size w).alloc (jB _) o)
def qP.base{C:Nat}(h:qP w B e v l)(E:C<=B):qP w C e v l:=by
 rcases h with h|⟨g,cap,A,I,J,hg,r⟩
 .exact .inl h
 .exact .inr ⟨g,cap,A,I,J,jM E hg,r⟩
def qP.len(h:qP w B e v l):∃A C,v=u A l.length C:=by
 rcases h with⟨rfl,rfl⟩|⟨g,cap,E,I,rfl,_⟩
 .exact⟨_,_,rfl⟩
 .exact⟨_,_,rfl⟩
def qP.cells(h:qP w B e v l){g:Nat}(hg:v.ownBlock=U g):∀j ao,(oh l)[j]? =U ao->w.cell? (Z g j V)=U ao:=by
 intro j ao A;rcases h with⟨rfl,_⟩|⟨I,cap,C,J,rfl,_,E,_,_,_,_,htake⟩
 .simp[kz]at hg
 .simp[kz]at hg
  subst hg;rw[cell_of_row w I j C e J E];rw[<-htake,mK]at A;split at A;.simpa using A
  .cases A
def qP.string(T:qj P t e s)(h:qP w B e v l):(convert t s v).run P w=.ok (G ⟨l.toArray⟩) w:=by
 rcases h with⟨rfl,rfl⟩|⟨g,cap,C,I,rfl,hb,hg,E,A,J,hsz,htake⟩
 .exact Uf
 .have h:qP w B e (u (U (Z g 0 V)) l.length cap) l:=.inr ⟨g,cap,C,I,rfl,hb,hg,E,A,J,hsz,htake⟩
  refine run_convert_bytes_back w t s e (Z g 0 V) cap l T.ht T.he T.hs λj N=> ?_
  have:=h.cells (g:=g) rfl j (Y .u8 (l[j].toNat:Int)) (by simp[oh,jL N]);have e1:((Z g 0 V):kW).add j=(Z g j V):=GQ;rw[e1];exact this
def a06{p:Prop}(h:p:=by
 have:=qP.cells (.inr ⟨g,cap,cur,fz,rfl,hbg,hg,hfz,hnc,hcm,hcs,htake⟩:qP w B e (u (U (Z g 0 V)) l.length cap) l) (g:=g) rfl j ao hu;have e1:((Z g 0 V):kW).add j=(Z g j V):=GQ;rw[e1];exact this):p:=h
def ED(T:qj P t e s)(ty:jX)(h:qP w B e v l)(m:List Ax)(a:kW)(c:Nat)(C:∀j ao,(oh m)[j]? =U ao->w.cell? (a.add j)=U ao)(hlen:l.length+m.length<=140737488355328)(hB:B<=w.heap.size):
  ∃v' w',(Builtin.append_ #[t,t] ty #[v,u (U a) m.length c]).run P w=.ok v' w'/\qP w' B e v' (l++m)/\w.grownBy w' v.ownBlock/\(v'.ownBlock=v.ownBlock\/∃g,v'.ownBlock=U g/\w.heap.size<=g):=by
 obtain⟨i,hi,aa,A,I⟩:=info_parts T.hi;rcases h with⟨rfl,rfl⟩|⟨g,cap,cur,fz,rfl,hbg,hg,hfz,hnc,hcm,hcs,htake⟩
 .obtain⟨v',w',ae,ag,aj,ak⟩:=run_append_own (P:=P) w B t ty e i (Y .u8 0) 1 1 T.ht hi aa A I rfl nT (u V 0 0) 0 [] (World.ownsRow_nil w B e 1) a m.length c (oh m) nX C (sH m) xe K hB
  refine⟨v',w',ae,qP.of ?_,aj,?_⟩
  .show w'.ownsRow B e 1 v' (([]:List Ax)++m).length (oh ([]++m))
   simpa using ag
  .rcases ag.2 with⟨rfl,_⟩|⟨g,cap,cur,rfl,hb,hg,_⟩
   .exact .inl rfl
   .refine .inr ⟨g,rfl,?_⟩
    by_cases au:m.length=0;.have:=(ak.2 ⟨rfl,au⟩);cases this
    .have hlt:=(j6.1 hg).1
     refine Nat.le_of_not_lt λax=> ?_
     obtain⟨az,ay,_⟩:=info_parts T.hi;have af:=run_append_nil (P:=P) w t ty e i (Y .u8 0) T.ht hi aa a m.length c (oh m) (by simp[A]) C K K (by rw[I];omega);rw[af]at ae;simp only[Result.ok.injEq,Value.slice.injEq,mI,Addr.mk.injEq]at ae;omega
 .by_cases E:l.length+m.length<=cap
  .have av:=run_firstCells_some (P:=P) w i.size m.length a m.length c (oh m) (by simp[A]) C
   have N:=uL P g (l.length*i.size) e fz (oh m) 0 cur w hg hfz (by simp[A];omega) (sH m);simp only[nk]at N;refine⟨u (U (Z g 0 V)) (l.length+m.length) cap,w.setRow g (cur.toList.take (l.length*i.size)++oh m++cur.toList.drop (l.length*i.size+(oh m).length)).toArray,?_,.inr ⟨g,cap,_,fz,nX,hbg,setRow_heap w g cur _ e _ hg,?_,by simpa using E,hcm,?_,?_⟩,⟨rfl,rfl,rfl,nX,λk _ hk=>setRow_other w g k _ (λe=>hk (by simp[kz,e]))⟩,.inl rfl⟩;.simp[Builtin.append_,run_underlying T.ht,sizeOf,typeInfo,hi,Builtin.lenOf,E,av,Addr.add_lit,N]
   .simp only[lK,jK,kD,kG,kH,rV,A,Nat.mul_one]
    rcases hfz with h|h
    .exact .inl h
    .exact .inr K
   .simp only[lK,jK,kD,kG,kH,rV,A,Nat.mul_one]
    omega
   .simp only[A,Nat.mul_one]
    rw[htake,pI];exact List.take_left' nX
  .have J:∀j ao,(oh l)[j]? =U ao->w.cell? (((Z g 0 V):kW).add j)=U ao:=λj ao hu=>by
    exact a06
   have af:=run_append_grow (P:=P) w t ty e i (Y .u8 0) T.ht hi aa (Z g 0 V) l.length cap (oh l) (by simp[A]) J a m.length c (oh m) (by simp[A]) C K K (growslice_fits K (by rw[I];omega));have ah:=grownCap_ge w (l.length+m.length) cap e;refine⟨_,_,af,.inr ⟨w.heap.size,grownCap w (l.length+m.length) cap e,_,(0,0),nX,hB,heap_alloc_new w.drew _,.inl (jB _),by simpa using ah,grownCap_le_maxLen w _ cap e xe,?_,?_⟩,⟨rfl,rfl,rfl,nX,λk hk _=>heap_alloc_old w.drew _ hk⟩,.inr ⟨_,rfl,jB _⟩⟩
   .have ai:(lC IntKind.u8 0).cells.size=1:=rfl
    simp only[Array.size_append,lK,size_zeroCells,ai,rV];omega
   .simp only[Array.toList_append,kX]
    rw[<-kX,<-pI];exact List.take_left' nX
def vX(T:qj P t e s){rest:List lJ}{o:lJ}{a:Act}{Q:Exit->Act->M->Prop}(I:o.guard=V)(x y:Operand)(ho:o.op=.call {callee:=.builtin .append,args:=#[x,y],argTypes:=#[t,t]})(B:Nat)(v:jC)(l m:List Ax)(k:Nat)(hk:k=m.length)(w:M)(cs:Array jC)(J:cs.toList=oh m)(af:a.eval x=v)(E:qP w B e v l)(hy:a.eval y=u (U (Z w.heap.size 0 V)) k k)(hlen:l.length+k<=140737488355328)(hB:B<=w.heap.size)(h:∀v' w',qP w' B e v' (l++m)->w.grownBy w' v.ownBlock->(v'.ownBlock=v.ownBlock\/∃g,v'.ownBlock=U g/\w.heap.size<=g)->wpList P ops Q rest (a.put o.dst v') w'):
  wpList P ops Q (o::rest) a (w.alloc (nL cs e)):=by
 subst hk;have N:=(jE w.heap.size w).alloc (jB _) (nL cs e);have aa:=nU.new w cs e;obtain⟨v',w',ag,ah,A,C⟩:=ED (w:=w.alloc (nL cs e)) T o.type (E.alloc _) m (Z w.heap.size 0 V) m.length (λj ao ai=>by
  have e1:((Z w.heap.size 0 V):kW).add j=(Z w.heap.size j V):=GQ;rw[e1,aa.cell,<-ai,<-J,Array.getElem?_toList]) hlen nY
 refine wpList_plain I λam aj=> ?_
 unfold Oper.wp execOp;simp only[ho,resolve,invoke,builtin,Sem.run_bind,Sem.run_pure,Result.andThen_ok,List.map_toArray,mf,ng,af,hy,ag];refine aj _ _ (h v' w' ah ⟨A.os,A.tape,A.output,by have:=A.size;simp at this;omega,λc hc ae=>(A.block c nY ae).trans (N.block c hc)⟩ ?_);rcases C with C|⟨g,C,ak⟩
 .exact .inl C
 .exact .inr ⟨g,C,by simp at ak;omega⟩
def yf(T:qj P t e s){rest:List lJ}{o:lJ}{a:Act}{Q:Exit->Act->M->Prop}(ai:o.guard=V)(x y:Operand)(ho:o.op=.call {callee:=.builtin .append,args:=#[x,y],argTypes:=#[t,s]})(B:Nat)(v:jC)(l:List Ax)(S:An)(w:M)(au:a.eval x=v)(ah:qP w B e v l)(hy:a.eval y=G S)(hlen:l.length+S.size<=140737488355328)(hB:B<=w.heap.size)(h:∀v' w',qP w' B e v' (l++S.data.toList)->w.grownBy w' v.ownBlock->(v'.ownBlock=v.ownBlock\/∃g,v'.ownBlock=U g/\w.heap.size<=g)->wpList P ops Q rest (a.put o.dst v') w'):
  wpList P ops Q (o::rest) a w:=by
 obtain⟨i,hi,aj,C,af⟩:=info_parts T.hi;have e1:mD S=oh S.data.toList:=by simp[mD,oh]
 have A:S.data.toList.length=S.size:=kH;refine wpList_plain ai λam av=> ?_
 suffices∃v' w',(Builtin.append_ #[t,s] o.type #[v,G S]).run P w=.ok v' w'/\qP w' B e v' (l++S.data.toList)/\w.grownBy w' v.ownBlock/\(v'.ownBlock=v.ownBlock\/∃g,v'.ownBlock=U g/\w.heap.size<=g)by
  obtain⟨v',w',I,ax,ay,az⟩:=this;unfold Oper.wp execOp;simp only[ho,resolve,invoke,builtin,Sem.run_bind,Sem.run_pure,Result.andThen_ok,List.map_toArray,mf,ng,au,hy,I];exact av _ _ (h v' w' ax ay az)
 rcases ah with⟨rfl,rfl⟩|⟨g,cap,cur,fz,rfl,hbg,hg,hfz,hnc,hcm,hcs,htake⟩
 .by_cases h0:S.size=0
  .have hn:S.data.toList=[]:=List.eq_nil_of_length_eq_zero K
   have aa:=Lib.run_firstCells_string (P:=P) w 1 S;refine⟨u V 0 0,w,?_,.inl ⟨rfl,by rw[hn];rfl⟩,⟨rfl,rfl,rfl,jB _,λ_ _ _=>rfl⟩,.inl rfl⟩;rw[h0]at aa;have ak:mD S=[]:=by rw[e1,hn];rfl
   simp[Builtin.append_,run_underlying T.ht,run_underlying T.hs,sizeOf,typeInfo,hi,C,Builtin.lenOf,h0,aa,ak,storeCells]
  .have I:=run_append_nil_string (P:=P) w t s o.type e i (Y .u8 0) T.ht T.hs hi aj S K (by simp at hlen;omega) (by rw[af];simp at hlen;omega)
   have J:=grownCap_ge w S.size 0 e;refine⟨_,_,I,.inr ⟨w.heap.size,grownCap w S.size 0 e,_,(0,0),by simp[A],hB,heap_alloc_new w.drew _,.inl (jB _),by simpa [A]using J,grownCap_le_maxLen w _ 0 e (by simp at hlen;unfold jN;omega),?_,?_⟩,⟨rfl,rfl,rfl,nX,λk hk _=>heap_alloc_old w.drew _ hk⟩,.inr ⟨_,rfl,jB _⟩⟩
   .have N:(lC IntKind.u8 0).cells.size=1:=rfl
    have aA:S.data.size=S.size:=rfl;simp only[Array.size_append,Array.size_map,size_zeroCells,N,aA];omega
   .simp only[Array.toList_append,Array.toList_map,List.nil_append]
    exact List.take_left' nX
 .by_cases E:l.length+S.size<=cap
  .have aa:=Lib.run_firstCells_string (P:=P) w 1 S
   have ag:=uL P g l.length e fz (mD S) 0 cur w hg hfz (by simp[Lib.strCells_length];omega) (Lib.strCells_oneCell S);simp only[nk,Lib.strCells_length]at ag;refine⟨u (U (Z g 0 V)) (l.length+S.size) cap,w.setRow g (cur.toList.take l.length++mD S++cur.toList.drop (l.length+S.size)).toArray,?_,.inr ⟨g,cap,_,fz,by simp[A],hbg,setRow_heap w g cur _ e _ hg,?_,by simpa [A]using E,hcm,?_,?_⟩,⟨rfl,rfl,rfl,nX,λk _ hk=>setRow_other w g k _ (λe=>hk (by simp[kz,e]))⟩,.inl rfl⟩;.simp[Builtin.append_,run_underlying T.ht,run_underlying T.hs,sizeOf,typeInfo,hi,C,Builtin.lenOf,E,aa,Addr.add_lit,ag]
   .simp only[lK,jK,kD,kG,kH,Lib.strCells_length]
    rcases hfz with h|h
    .exact .inl h
    .exact .inr K
   .simp only[lK,jK,kD,kG,kH,Lib.strCells_length]
    omega
   .rw[htake,pI,e1]
    exact List.take_left' nX
  .have ae:∀j ao,(oh l)[j]? =U ao->w.cell? (((Z g 0 V):kW).add j)=U ao:=λj ao hu=>by
    exact a06
   have I:=Lib.run_append_grow_string (P:=P) w t s o.type e i (Y .u8 0) T.ht T.hs hi aj (Z g 0 V) l.length cap (oh l) (by simp[C]) ae S K K (by rw[af];exact growslice_fits K K);have J:=grownCap_ge w (l.length+S.size) cap e;refine⟨_,_,I,.inr ⟨w.heap.size,grownCap w (l.length+S.size) cap e,_,(0,0),by simp[A],hB,heap_alloc_new w.drew _,.inl (jB _),by simpa [A]using J,grownCap_le_maxLen w _ cap e xe,?_,?_⟩,⟨rfl,rfl,rfl,nX,λk hk _=>heap_alloc_old w.drew _ hk⟩,.inr ⟨_,rfl,jB _⟩⟩
   .have N:(lC IntKind.u8 0).cells.size=1:=rfl
    simp only[Array.size_append,lK,size_zeroCells,N,rV,Lib.strCells_length];omega
   .simp only[Array.toList_append,kX]
    rw[<-kX,e1,<-pI];exact List.take_left' nX
end
end
section
open Go.RowKit Go.Maps
structure Q4 where
 a:Ax
 b:Ax
 c:Ax
 d:Ax
 deriving DecidableEq
def yY(l:List Ax)(i:Nat):Q4:=⟨l.getD i 0,l.getD (i+1) 0,l.getD (i+2) 0,l.getD (i+3) 0⟩
abbrev Yp:=List (Q4×Nat)
def rJ(l:List Ax):Nat->Nat->Yp->Yp
 |0,_,mp=>mp
 |n+1,i,mp=>rJ l n (i+1) (if i+4<=l.length then(yY l i,i)::mp.filter (λp=>p.1 !=yY l i)else mp)
def rX(l:List Ax)(i j:Nat):Nat->Nat->Nat
 |0,n=>n
 |f+1,n=>if max i j+n<l.length/\l[i+n]? =l[j+n]? then rX l i j f (n+1)else n
def rf(l:List Ax)(i j:Nat):Nat:=rX l i j 64 0
def yK(n d:Nat):List Ax:=if n<=11/\d<2048 then [jU (1+4*(n - 4)+32*(d/256)),jU (d % 256)]else jU (2+4*(n - 1))::vL 2 d
def yo(x:List Ax):List Ax:=Qt x.length++x
structure Qu where
 i:Nat
 pend:Nat
 out:List Ax
 mp:Yp
def LV(l:List Ax)(s:Qu):Option Nat:=if s.i+4<=l.length then vE s.mp (yY l s.i)else V
def rY(l:List Ax)(s:Qu):Qu:=match LV l s with
 |some j=>⟨s.i+rf l j s.i,s.i+rf l j s.i,s.out++yo ((l.take s.i).drop s.pend)++yK (rf l j s.i) (s.i - j),rJ l (rf l j s.i) s.i s.mp⟩
 |none=>⟨s.i+1,s.pend,s.out,rJ l 1 s.i s.mp⟩
def sP(l:List Ax):Nat->Qu->Qu
 |0,s=>s
 |f+1,s=>if s.i<l.length then sP l f (rY l s)else s
def uZ(l:List Ax):Qu:=⟨0,0,ow l.length,[]⟩
def wL(l:List Ax):List Ax:=(sP l l.length (uZ l)).out++yo (l.drop (sP l l.length (uZ l)).pend)
def a07(l:List Ax)(i:Nat)(mp:Yp):Prop:=∀k j,vE mp k=U j->j<i/\j+4<=l.length/\yY l j=k
def a08{κ ac:Type}[DecidableEq κ](mp:List (κ×ac))(x k:κ)(y:ac):vE ((x,y)::mp.filter (λp=>p.1 !=x)) k=if x=k then U y else vE mp k:=by
 unfold vE;rw[List.find?_cons];by_cases h:x=k;.subst h;simp
 .rw[As h,show((x,y).1==k)=O by simpa using h]
  dsimp only;congr 1;rw[List.find?_filter];congr 1
  funext p;by_cases hp:p.1=k
  .have A:¬k=x:=λe=>h e.symm
   simp[hp,A]
  .simp[hp]
def a07.fill{l:List Ax}:∀{n i:Nat}{mp:Yp},a07 l i mp->a07 l (i+n) (rJ l n i mp)
 |0,i,mp,h=>h
 |n+1,i,mp,h=>by
  unfold rJ;rw[show i+(n+1)=i+1+n by omega];refine a07.fill (n:=n) ?_;intro k j hk;split at hk
  .rename_i A
   rw[a08]at hk;split at hk
   .rename_i e
    cases hk;exact⟨K,A,e⟩
   .have:=h k j hk
    exact⟨K,this.2⟩
  .have:=h k j hk
   exact⟨K,this.2⟩
def yL{l:List Ax}{i j:Nat}:∀ f n:Nat,n<=rX l i j f n/\rX l i j f n<=n+f/\(max i j+n<=l.length->max i j+rX l i j f n<=l.length)/\∀q,n<=q->q<rX l i j f n->l[i+q]? =l[j+q]?
 |0,n=>⟨jB _,jB _,id,λq C A=>by unfold rX at A;omega⟩
 |f+1,n=>by
  unfold rX;split
  .rename_i h
   obtain⟨C,A,E,I⟩:=(yL f (n+1):n+1<=rX l i j f (n+1)/\_);refine⟨K,K,λ_=>E K,λq N J=> ?_⟩;by_cases e:q=n;.subst e;exact h.2
   .exact I q K J
  .exact⟨jB _,K,id,λq C A=>by omega⟩
def getD_at{l:List Ax}{i j:Nat}(hi:i<l.length)(A:j<l.length)(h:l.getD i 0=l.getD j 0):l[i]? =l[j]? :=by
 rw[kL,kL,jL hi,jL A]at h;rw[jL hi,jL A];exact congrArg U h
def a7q{l:List Ax}{i j:Nat}(hi:i+4<=l.length)(J:j+4<=l.length)(h:yY l i=yY l j):4<=rf l i j:=by
 unfold rf;simp only[yY,Q4.mk.injEq]at h;have A:=getD_at K K h.1;have C:=getD_at K K h.2.1;have E:=getD_at K K h.2.2.1;have I:=getD_at K K h.2.2.2;have N:max i j+4<=l.length:=K;rw[rX,AC ⟨K,A⟩,rX,AC ⟨K,C⟩,rX,AC ⟨K,E⟩,rX,AC ⟨K,I⟩];exact(yL _ _).1
def a09{l:List Ax}{i j:Nat}(hi:i<=l.length)(C:j<=l.length):rf l i j<=64/\i+rf l i j<=l.length/\j+rf l i j<=l.length:=by
 unfold rf;obtain⟨E,I,A,J⟩:=yL (l:=l) (i:=i) (j:=j) 64 0;have:=A K;omega
def NR(x:List Ax):(yo x).length<=x.length+3:=by
 unfold yo Qt;have A:(vL 2 (x.length - 1)).length=2:=pY 2 _
 (repeat' split)<;>simp[A]<;>omega
def a1a(n d:Nat):(yK n d).length<=3:=by
 unfold yK;have A:(vL 2 d).length=2:=pY 2 _;split<;>simp[A]
structure zA(l:List Ax)(s:Qu):Prop where
 il:s.i<=l.length
 pi:s.pend<=s.i
 mp:a07 l s.i s.mp
 ol:s.out.length<=16+8*s.pend
def JS(n:Nat)(h:n<=65536):(ow n).length<=10:=by
 have:=sQ 3 n K;omega
def zA.ini(l:List Ax)(h:l.length<=65536):zA l (uZ l):=
 ⟨ko _,jB _,λk j hk=>by simp[uZ,vE]at hk,by have:=JS l.length h;simp[uZ];omega⟩
def JU{l:List Ax}{s:Qu}(h:zA l s){j:Nat}(A:LV l s=U j):s.i+4<=l.length/\j<s.i/\yY l j=yY l s.i/\4<=rf l j s.i/\rf l j s.i<=64/\s.i+rf l j s.i<=l.length:=by
 unfold LV at A;split at A
 .rename_i C
  obtain⟨I,J,E⟩:=h.mp _ _ A;have:=a09 (l:=l) (i:=j) (j:=s.i) K K;exact⟨C,I,E,a7q J C E,this.1,this.2.2⟩
 .cases A
def zA.step{l:List Ax}{s:Qu}(h:zA l s)(hi:s.i<l.length):zA l (rY l s)/\s.i<(rY l s).i:=by
 unfold rY;split
 .rename_i j A
  obtain⟨E,I,J,N,aa,C⟩:=JU h A;refine⟨⟨C,jB _,h.mp.fill,?_⟩,by dsimp only;omega⟩;have a:=NR ((l.take s.i).drop s.pend);have b:=a1a (rf l j s.i) (s.i - j);have c:((l.take s.i).drop s.pend).length=s.i - s.pend:=by rw[kG,kD];omega
  have d:=h.ol;have e:=h.pi;simp only[jK];omega
 .exact⟨⟨by dsimp only;omega,by have:=h.pi;dsimp only;omega,h.mp.fill (n:=1),h.ol⟩,by dsimp only;omega⟩
def Ti{l:List Ax}:∀(f:Nat)(s:Qu),¬s.i<l.length->sP l f s=s
 |0,s,_=>rfl
 |f+1,s,h=>by unfold sP;rw[As h]
end
section
open Go.RowKit
structure vY(B:Nat)(v:jC)(w:M)(v':jC)(l:List Ax)(w':M):Prop where
 own:qP w' B 5 v' l
 kp:rF (λd=>v.ownBlock=U d) w w'
 at_:v'.ownBlock=v.ownBlock\/∃g,v'.ownBlock=U g/\w.heap.size<=g
def vY.refl{B:Nat}{v:jC}{w:M}{l:List Ax}(h:qP w B 5 v l):vY B v w v l w:=⟨h,rF.refl _ _,.inl rfl⟩
def vY.of{B:Nat}{v v':jC}{w w':M}{l:List Ax}(h:qP w' B 5 v' l)(k:w.grownBy w' v.ownBlock)(a:v'.ownBlock=v.ownBlock\/∃g,v'.ownBlock=U g/\w.heap.size<=g):vY B v w v' l w':=⟨h,rF.grown k λ_ e=>e,a⟩
def vY.below{B:Nat}{v:jC}{w w':M}{l:List Ax}(h:qP w B 5 v l)(hb:jD w.heap.size w w'):vY B v w v l w':=⟨h.below hb,rF.of hb,.inl rfl⟩
def vY.trans{B:Nat}{v v' v2:jC}{w w' w2:M}{l l2:List Ax}(h:vY B v w v' l w')(k:vY B v' w' v2 l2 w2):vY B v w v2 l2 w2:=by
 refine⟨k.own,h.kp.trans k.kp λc hc A=> ?_,?_⟩
 .rcases h.at_ with e|⟨g,e,hg⟩
  .rw[e]at A;exact A
  .rw[e]at A;cases A;omega
 .rcases k.at_ with e|⟨g,e,hg⟩
  .rw[e];exact h.at_
  .exact .inr ⟨g,e,jM h.kp.size hg⟩
def GI(B:Nat)(v:jC)(l:List Ax)(s:An)(w:M)(I:qP w B 5 v l)(hl:l.length<=1000000)(hs:s.size<=65536)(hB:B<=w.heap.size):
  jG jy 185 #[v,G s] w λe w'=>∃v',e=nK v'/\vY B v w v' (l++yo s.data.toList) w':=by
 have au:s.data.toList.length=s.size:=kH;have J:jI (yo s.data.toList=Qt s.size++s.data.toList):=H (by unfold yo;rw[au]);by_cases h0:s.size=0
 .have af:jI (l++yo s.data.toList=l):=H (by
   have e:s.data.toList=[]:=mh.1 K;rw[J.out,e,h0];simp[Qt])
  have t0:((s.size:Int)==0)=R:=by simp[h0]
  have aF:=H I;clear I h0 au J;go_in;go_wp2;go_returns;exact⟨v,rfl,by rw[af.out];exact vY.refl aF.out⟩
 .have t0:((s.size:Int)==0)=O:=vo
  by_cases ah:s.size<=60
  .have af:jI (yo s.data.toList=[jU (4*(s.size - 1))]++s.data.toList):=H (by rw[J.out];unfold Qt;rw[As h0,AC ah])
   clear J;go_in
   go_wp2_with (first
    |(at_builtin;refine vX Cr rfl _ _ rfl B v l [jU (4*(s.size - 1))] 1 rfl w _ (yZ (n:=4*(s.size - 1)) K K) rfl I rfl K hB ?_;intro v' w' C A E;have ae:=H (vY.of C A E);have N:=jM hB A.size;clear C A E)
    |(at_builtin;refine yf Cr rfl _ _ rfl B v' (l++[jU (4*(s.size - 1))]) s w' rfl ae.own rfl nY N ?_;intro v2 w3 C A E;have aa:=H (vY.of C A E);clear C A E))
   go_returns;exact⟨_,rfl,by rw[af.out,<-kX];exact ae.trans aa.out⟩
  .by_cases ai:s.size<=256
   .have af:jI (yo s.data.toList=[240,jU (s.size - 1)]++s.data.toList):=H (by rw[J.out];unfold Qt;rw[As h0,As ah,AC ai])
    clear J;have ay:∀x:Int,x=((s.size - 1:Nat):Int)->[lC .u8 240,lC .u8 x]=oh [240,jU (s.size - 1)]:=λx aG=>by
     have:=yZ (n:=s.size - 1) aG K;simp only[oh,mf,ng]at this|-;rw[List.cons.injEq]at this;rw[this.1];rfl
    go_in
    go_wp2_with (first
     |(at_builtin;refine vX Cr rfl _ _ rfl B v l [240,jU (s.size - 1)] 2 rfl w _ (ay _ K) rfl I rfl K hB ?_;intro v' w' C A E;have ae:=H (vY.of C A E);have N:=jM hB A.size;clear C A E)
     |(at_builtin;refine yf Cr rfl _ _ rfl B v' (l++[240,jU (s.size - 1)]) s w' rfl ae.own rfl nY N ?_;intro v2 w3 C A E;have aa:=H (vY.of C A E);clear C A E))
    go_returns;exact⟨_,rfl,by rw[af.out,<-kX];exact ae.trans aa.out⟩
   .have af:jI (yo s.data.toList=[244]++vL 2 (s.size - 1)++s.data.toList):=H (by rw[J.out];unfold Qt;rw[As h0,As ah,As ai];rfl)
    clear J;have av:=pY 2 (s.size - 1);have c0:=vQ (s.size - 1) 2 w K nT nT K;rw[show((s.size - 1:Nat):Int)=(s.size:Int) - 1 by omega]at c0;obtain⟨S,az⟩:∃S:An,(⟨(vL 2 (s.size - 1)).toArray⟩:An)=S:=⟨_,rfl⟩;have aj:S.data.toList=vL 2 (s.size - 1):=by rw[<-az]
    have aI:S.size=2:=by
     have e:S.data.toList.length=S.size:=kH;rw[<-e,aj,av]
    rw[az]at c0;have aH:=H c0;have aB:=H aj;have aA:=H I;clear c0 az aj I av;go_in;go_wp2_with fail;refine aH.mono ?_;rintro e w2 ⟨rfl,ak⟩;have ag:=H (vY.below aA ak);have ax:B<=w2.heap.size:=jM hB ak.size;clear ak
    go_wp2_with (first
     |(at_builtin;refine vX Cr rfl _ _ rfl B v l [244] 1 rfl w2 _ (yZ (n:=244) K K) rfl ag.own rfl K ax ?_;intro v' w' C A E;have ae:=H (vY.of C A E);have N:=jM ax A.size;clear C A E)
     |(at_builtin;refine yf Cr rfl _ _ rfl B v' (l++[244]) S w' rfl ae.own rfl nY N ?_;intro v2 w3 C A E;have aa:=H (vY.of C A E);have aC:=jM N A.size;clear C A E)
     |(at_builtin;refine yf Cr rfl _ _ rfl B v2 (l++[244]++S.data.toList) s w3 rfl aa.own rfl nY aC ?_;intro v3 w4 C A E;have aD:=H (vY.of C A E);clear C A E))
    go_returns;refine⟨_,rfl,?_⟩;have:=((ag.trans ae).trans aa).trans aD.out;rw[aB.out]at this;rw[af.out];simpa using this
def a1b(B:Nat)(v:jC)(l:List Ax)(n d:Nat)(w:M)(I:qP w B 5 v l)(hl:l.length<=1000000)(hn:4<=n/\n<=64)(hd:d<=65535)(hB:B<=w.heap.size):
  jG jy 187 #[v,Y X n,Y X d] w λe w'=>∃v',e=nK v'/\vY B v w v' (l++yK n d) w':=by
 by_cases h0:n<=11/\d<2048
 .have ae:jI (yK n d=[jU (1+4*(n - 4)+32*(d/256)),jU (d % 256)]):=H (by unfold yK;rw[AC h0])
  have av:At ((n:Int)<=11)=R:=nY;have aC:At ((d:Int)<2048)=R:=nY;obtain⟨q,ax⟩:=og (d/256);obtain⟨r,ay⟩:=og (d % 256);rw[ax,ay]at ae;have aJ:q<8:=K;have Ko:r<256:=K;have aD:(d:Int)/256=(q:Int):=K;have aF:(d:Int) % 256=(r:Int):=K;have aK:Int.tdiv (d:Int) 256=(q:Int):=by rw[Int.tdiv_eq_ediv_of_nonneg K];exact aD
  have aL:Int.tmod (d:Int) 256=(r:Int):=by rw[Int.tmod_eq_emod_of_nonneg K];exact aF
  have aj:∀x y:Int,x=((1+4*(n - 4)+32*q:Nat):Int)->y=(r:Int)->[lC .u8 x,lC .u8 y]=oh [jU (1+4*(n - 4)+32*q),jU r]:=λx y aG hy=>by
   have e1:=yZ (n:=1+4*(n - 4)+32*q) aG K;have e2:=yZ (n:=r) hy K;simp only[oh,mf,ng]at e1 e2|-;rw[List.cons.injEq]at e1 e2;rw[e1.1,e2.1]
  have aH:n<=11:=h0.1;clear h0 ax ay;go_in;go_wp2_with (at_builtin;go_loud (refine vX Cr rfl _ _ rfl B v l [jU (1+4*(n - 4)+32*q),jU r] 2 rfl w _ (aj _ _ K K) rfl I rfl K hB ?_);intro v' w' C A E;have af:=H (vY.of C A E);clear C A E);go_returns;exact⟨_,rfl,by rw[ae.out];exact af.out⟩
 .have ae:jI (yK n d=[jU (2+4*(n - 1))]++vL 2 d):=H (by unfold yK;rw[As h0];rfl)
  have ah:=pY 2 d;have c0:=vQ d 2 w K nT nT K;obtain⟨S,ak⟩:∃S:An,(⟨(vL 2 d).toArray⟩:An)=S:=⟨_,rfl⟩;have N:S.data.toList=vL 2 d:=by rw[<-ak]
  have aM:S.size=2:=by
   have e:S.data.toList.length=S.size:=kH;rw[<-e,N,ah]
  rw[ak]at c0;have aI:=H c0;have az:=H N;have au:=H I;clear c0 ak N I ah;have ag:(At ((n:Int)<=11)=O)\/(At ((n:Int)<=11)=R/\At ((d:Int)<2048)=O):=by
   by_cases h:n<=11;.exact .inr ⟨nY,nY⟩
   .exact .inl nY
  clear h0;rcases ag with av|⟨av,aC⟩
  all_goals
   go_in;go_wp2_with fail;refine aI.mono ?_;rintro e w2 ⟨rfl,aa⟩;have J:=H (vY.below au aa);have ai:B<=w2.heap.size:=jM hB aa.size;clear aa
   go_wp2_with (first
    |(at_builtin;refine vX Cr rfl _ _ rfl B v l [jU (2+4*(n - 1))] 1 rfl w2 _ (yZ (n:=2+4*(n - 1)) K K) rfl J.own rfl K ai ?_;intro v' w' C A E;have af:=H (vY.of C A E);have aA:=jM ai A.size;clear C A E)
    |(at_builtin;refine yf Cr rfl _ _ rfl B v' (l++[jU (2+4*(n - 1))]) S w' rfl af.own rfl nY aA ?_;intro v2 w3 C A E;have aB:=H (vY.of C A E);clear C A E))
   go_returns;refine⟨_,rfl,?_⟩;have:=(J.trans af).trans aB.out;rw[az.out]at this;rw[ae.out];simpa using this
def Qv(s:An)(i:Nat)(h:i<s.size)(x:Int)(A:x=(i:Int))(w:M):(kP 9 (G s) (Y X x)).run jy w=.ok (Y .u8 ((s[i]).toNat:Int)) w:=by
 subst A;rw[run_index_string w 9 s .i64 i lU];simp[h]
def Xz{l:List Ax}{i j f n:Nat}(h:max i j+n<l.length)(A:l[i+n]? =l[j+n]?):rX l i j (f+1) n=rX l i j f (n+1):=by
 rw[rX,AC ⟨h,A⟩]
def JV{l:List Ax}{i j f n:Nat}(h:¬(max i j+n<l.length/\l[i+n]? =l[j+n]?)):rX l i j (f+1) n=n:=by
 rw[rX,As h]
def NS{p:Prop}(h:p:=by
 refine l7 ?_;intro x;go_wp2;go_returns;exact⟨by rw[HE.out];rfl,HBX x⟩):p:=h
def a1c(s:An)(i j:Nat)(w:M)(hs:s.size<=65536)(aF:i<j)(aB:j<=s.size):
  jG jy 186 #[G s,Y X i,Y X j] w λe w'=>e=nK (Y X (rf s.data.toList i j:Nat))/\jD w.heap.size w w':=by
 obtain⟨L,hL⟩:=og s.size;have ae:s.data.toList.length=s.size:=kH;have af:max i j=j:=K;have ag:∀q (h:q<s.size),s.data.toList[q]? =U (s[q]'h):=λq h=>by
  rw[jL K];rfl
 obtain⟨ar,aj⟩:=og (rf s.data.toList i j);have aC:jI (rX s.data.toList i j 64 0=ar):=H aj;have ak:=H hL;have ah:=H ae;have E:=H ag;have ai:=H af;rw[aj];rw[hL]at hs aB;have aJ:(if(i:Int)<(j:Int)then(j:Int)else(i:Int))=(j:Int):=by split<;>omega
 clear aj ae ag af;go_in;go_wp2_with fail;go_loopw [7] (λau aD=>∃n:Nat,au=Y X n/\n<=64/\jI (rX s.data.toList i j (64 - n) n=ar)/\jI (jD w.heap.size w aD)) (λau _=>64 -(kC au).toNat);case atStart=>exact⟨0,rfl,K,aC,H (jE _ _)⟩
 case round=>
  obtain⟨n,rfl,hn,N,ay⟩:=hrel;have HBX:jI (∀x:sW wr,jD w.heap.size w x.at_):=H λx=>ay.trans (x.is.mono ay.size)
  by_cases aG:n<64
  .have av:jI (64 - n=(64 -(n+1))+1):=H K
   have C:jI (At ((n:Int)<64)=R):=H nY;by_cases cl:j+n<L
   .have aa:jI (At (j+n<L)=R):=H nY
    have I:jI (At (max (i:Int) (j:Int)+(n:Int)<(L:Int))=R):=H (by rw[decide_eq_true_eq];omega);have A:j+n<s.size:=by rw[ak.out];exact cl
    have hin:i+n<s.size:=by rw[ak.out];omega
    have aH:=λW=>Qv s (i+n) hin ((i:Int)+(n:Int)) K W
    have aI:=λW=>Qv s (j+n) A ((j:Int)+(n:Int)) K W
    by_cases J:s[i+n]'hin=s[j+n]'A
    .have az:jI (rX s.data.toList i j (64 -(n+1)) (n+1)=ar):=H (by
      rw[<-N.out,av.out];exact(Xz (by rw[ah.out,ai.out];exact A) (by rw[E.out _ hin,E.out _ A,J])).symm)
     have ax:jI ((((s[i+n]'hin).toNat:Int)==((s[j+n]'A).toNat:Int))=R):=H (by rw[J];simp);go_upto_region 4 with fail;refine oK nV nV ?_;repeat(first|(go_big_quiet_step (fail))|(rw[C.out])|(rw[aa.out])|(rw[I.out])|(rw[ax.out]))
     refine l7 ?_;intro x;go_wp2;go_roundw;case rel=>exact⟨n+1,by go_num,K,az,H (HBX x)⟩
     case measure=>simp[kC];omega
    .have HE:jI (ar=n):=H (by
      rw[<-N.out,av.out];exact JV (λh=>J (by have:=h.2;rw[E.out _ hin,E.out _ A]at this;exact mg this)))
     have ax:jI ((((s[i+n]'hin).toNat:Int)==((s[j+n]'A).toNat:Int))=O):=H (by
      rw[beq_eq_false_iff_ne];intro h;exact J (lX.1 K))
     go_upto_region 4 with fail;refine oK nV nV ?_;repeat(first|(go_big_quiet_step (fail))|(rw[C.out])|(rw[aa.out])|(rw[I.out])|(rw[ax.out]))
     exact NS
   .have HE:jI (ar=n):=H (by
     rw[<-N.out,av.out];exact JV (λh=>by have aA:=h.1;rw[ah.out,ai.out,ak.out]at aA;exact cl aA))
    have aa:jI (At (j+n<L)=O):=H nY;have I:jI (At (max (i:Int) (j:Int)+(n:Int)<(L:Int))=O):=H (by rw[decide_eq_false_iff_not];omega);go_upto_region 4 with fail;refine oK nV nV ?_;repeat(first|(go_big_quiet_step (fail))|(rw[C.out])|(rw[aa.out])|(rw[I.out]))
    exact NS
  .have HE:jI (ar=n):=H (by
    rw[<-N.out,show 64 - n=0 by omega];rfl)
   have C:jI (At ((n:Int)<64)=O):=H nY;go_upto_region 4 with fail;refine oK nV nV ?_;repeat(first|(go_big_quiet_step (fail))|(rw[C.out]))
   exact NS
end
section
open Go.RowKit Go.Maps
abbrev K4T:jX:=224
def Q4.cs(q:Q4):List jC:=[Y .u8 (q.a.toNat:Int),Y .u8 (q.b.toNat:Int),Y .u8 (q.c.toNat:Int),Y .u8 (q.d.toNat:Int)]
def Q4.v(q:Q4):jC:=nI q.cs.toArray
def Qw:Tryz.prog.cellsOf K4T=4:=nV
def a1d:Tryz.prog.cellsOf 5=1:=nV
def a1e:Tryz.prog.keyType K4T=R:=nV
def Vx:∃d,Tryz.prog.types.size=d+1:=⟨Tryz.prog.types.size - 1,by
 have:0<Tryz.prog.types.size:=of_decide_eq_true nV;omega⟩
def Vy(d:Nat)(cs:List jC):Tryz.prog.keyLits (d+2) K4T cs=if cs.length=4 then((ll 4).mapM λi=>Tryz.prog.keyLits (d+1) 5 ((cs.drop (i*1)).take 1)).map List.flatten else V:=by
 rw[Program.keyLits.eq_def];simp only[Tryz.underlying224,Qw,a1d]
def Vz(d:Nat)(v:jC):Tryz.prog.keyLits (d+1) 5 [v]=match v with| Y q n=>if q=.u8/\(kY .u8 n).wf=R then U [kY .u8 n]else V|_=>V:=by
 rw[Program.keyLits.eq_def];simp only[Tryz.underlying5];cases v<;>rfl
def a9l(b:Ax):(kY .u8 (b.toNat:Int)).wf=R:=by
 have h:=b.toNat_lt;simp only[Lit.wf,jJ,decide_eq_true_eq];have A:IntKind.u8.min=0:=rfl;have C:IntKind.u8.max=255:=rfl;rw[A,C];omega
def a1f{n:Int}(h:(kY .u8 n).wf=R):∃b:Ax,n=(b.toNat:Int):=by
 simp only[Lit.wf,jJ,decide_eq_true_eq]at h;have A:IntKind.u8.min=0:=rfl;have C:IntKind.u8.max=255:=rfl;rw[A,C]at h;exact⟨jU n.toNat,by rw[AL _ K];omega⟩
def a9m(b:Ax):(kY .u8 (b.toNat:Int)).keyBytes=[b]:=by
 have h:=b.toNat_lt;have e:((b.toNat:Int) % 2^8).toNat=b.toNat:=K;show bytesBE (8/8) (((b.toNat:Int) % 2^8).toNat)=[b];rw[e];show [jU (b.toNat % 256)]=[b];rw[Nat.mod_eq_of_lt h];simp
def a4z(d:Nat)(q:Q4):Tryz.prog.keyLits (d+2) K4T q.cs=U [kY .u8 (q.a.toNat:Int),kY .u8 (q.b.toNat:Int),kY .u8 (q.c.toNat:Int),kY .u8 (q.d.toNat:Int)]:=by
 rw[Vy,AC (show q.cs.length=4 from rfl)];have A:ll 4=[0,1,2,3]:=rfl;simp[A,Q4.cs,Vz,a9l]
def Tj(d:Nat)(cs:List jC)(J:List Lit)(h:Tryz.prog.keyLits (d+2) K4T cs=U J):∃q:Q4,cs=q.cs/\J=[kY .u8 (q.a.toNat:Int),kY .u8 (q.b.toNat:Int),kY .u8 (q.c.toNat:Int),kY .u8 (q.d.toNat:Int)]:=by
 rw[Vy]at h;split at h
 .rename_i hl
  have one:∀(v:jC)(l:List Lit),Tryz.prog.keyLits (d+1) 5 [v]=U l->∃b:Ax,v=Y .u8 (b.toNat:Int)/\l=[kY .u8 (b.toNat:Int)]:=by
   intro v l A;rw[Vz]at A;split at A
   .split at A
    .rename_i q n N
     cases A;obtain⟨rfl,aa⟩:=N;obtain⟨b,rfl⟩:=a1f aa;exact⟨b,rfl,rfl⟩
    .cases A
   .cases A
  match cs,hl with
  |[v0,v1,v2,v3],_=>
   have ae:ll 4=[0,1,2,3]:=rfl;simp only[ae,List.mapM_cons,List.mapM_nil]at h;simp only[Nat.zero_mul,Nat.one_mul,Nat.reduceMul,mM,mP,jY,kJ]at h;cases h0:Tryz.prog.keyLits (d+1) 5 [v0]with
   |none=>rw[h0]at h;cases h
   |some ag=>
    cases C:Tryz.prog.keyLits (d+1) 5 [v1]with
    |none=>rw[h0,C]at h;cases h
    |some ah=>
     cases E:Tryz.prog.keyLits (d+1) 5 [v2]with
     |none=>rw[h0,C,E]at h;cases h
     |some l2=>
      cases I:Tryz.prog.keyLits (d+1) 5 [v3]with
      |none=>rw[h0,C,E,I]at h;cases h
      |some ai=>
       rw[h0,C,E,I]at h;obtain⟨b0,rfl,rfl⟩:=one _ _ h0;obtain⟨b1,rfl,rfl⟩:=one _ _ C;obtain⟨af,rfl,rfl⟩:=one _ _ E;obtain⟨b3,rfl,rfl⟩:=one _ _ I;simp at h;exact⟨⟨b0,b1,af,b3⟩,rfl,h.symm⟩
 .cases h
def a7r:WideMaps.KeyLaw jy K4T:=deep_law_laid nV (m:=2) K (of_decide_eq_true nV) nV nV
def Qx(q:Q4):keyBytes [kY .u8 (q.a.toNat:Int),kY .u8 (q.b.toNat:Int),kY .u8 (q.c.toNat:Int),kY .u8 (q.d.toNat:Int)]=[q.a,q.b,q.c,q.d]:=by
 simp[keyBytes,a9m]
noncomputable def Tk:Fq jy K4T Q4 where
 kv:=Q4.v
 kl q:=Lit.string [q.a,q.b,q.c,q.d]
 ok q:=True
 am:=Keyed.of_law a7r
 lay q _:=by
  obtain⟨d,hd⟩:=Vx;unfold keyOf;simp only[Tryz.underlying224,a1e,mQ];rw[AC (by simp[Q4.v,Value.formed,Tryz.underlying224,Qw,Q4.cs]),hd,show Q4.v q=.agg q.cs.toArray from rfl,show(Value.agg q.cs.toArray).cells.toList=q.cs from rfl,a4z,Option.map_some,Qx]
 inv v l h:=by
  obtain⟨d,hd⟩:=Vx;unfold keyOf at h;simp only[Tryz.underlying224,a1e,mQ]at h;split at h
  .rename_i A
   rw[hd]at h;cases hk:Tryz.prog.keyLits (d+2) K4T v.cells.toList with
   |none=>rw[hk]at h;cases h
   |some E=>
    rw[hk]at h;obtain⟨q,C,rfl⟩:=Tj _ _ _ hk;rw[Option.map_some,Qx]at h;cases h;refine⟨q,?_,rfl⟩;cases v with
    |agg cs=>
     show Value.agg cs=nI q.cs.toArray;have:cs.toList=q.cs:=C;rw[<-this]
    |_=>simp[Value.formed,Tryz.underlying224]at A
  .cases h
 inj x y h:=by
  cases x;cases y
  simpa using h
 key q:=trivial
def EE:IW Nat where
 ev n:=Y X (n:Int)
 ar v:=match v with| Y q x=>if q=X/\0<=x then U (.held x.toNat,[])else V|_=>V
 lay x:=nX
 inv v z h:=by
  cases v<;>simp at h;obtain⟨⟨rfl,A⟩,rfl⟩:=h;exact⟨_,by rw[ny A],rfl⟩
def FP{P:lQ}{t e s:jX}(T:qj P t e s)(S:An)(J:S.size<=1000000)(w:M):
  ∃cap w',(convert s t (G S)).run P w=.ok (u (U (Z w.heap.size 0 V)) S.size cap) w'/\qP w' w.heap.size e (u (U (Z w.heap.size 0 V)) S.size cap) S.data.toList/\jD w.heap.size w w'/\w'.heap.size=w.heap.size+1/\S.size<=cap/\cap<=jN:=by
 have A:S.data.toList.length=S.size:=kH;have C:=grownCap_ge w S.size 0 e;have E:=grownCap_le_maxLen w S.size 0 e xe;refine⟨_,_,run_bytes_of_string w s t e S T.hs T.ht T.he,.inr ⟨w.heap.size,grownCap w S.size 0 e,_,_,by rw[A],jB _,heap_alloc_new w.drew _,.inr (jB _),by rw[A];exact C,E,?_,?_⟩,((jE _ _).drew).alloc (jB _) _,nX,C,E⟩
 .have I:S.data.size=S.size:=rfl
  simp only[bytesRow,Array.size_append,Array.size_map,Array.size_replicate,I];omega
 .simp only[bytesRow,Array.toList_append,Array.toList_map]
  rw[List.take_left' nX];rfl
structure FQ(w0:M)(g bm:Nat)(l:List Ax)(pv:jC)(out:List Ax)(n:Nat)(mp:Yp)(W:M):Prop where
 row:∀i,i<l.length->W.cell? (Z g i V)=U (Y .u8 ((l.getD i 0).toNat:Int))
 pk:qP W (g+1) 5 pv out
 mp:qU Tk EE W bm n mp
 ne:∀d,pv.ownBlock=U d->d≠bm
 ql:jD g w0 W
 lt:g<bm/\g+1<=W.heap.size/\g=w0.heap.size
section
variable {w0:M}{g bm:Nat}{l:List Ax}{pv pv2:jC}{out a9n:List Ax}{n n2:Nat}{mp mp2:Yp}{W W':M}
def FQ.below(h:FQ w0 g bm l pv out n mp W)(hb:jD W.heap.size W W'):FQ w0 g bm l pv out n mp W':=by
 have A:=h.lt;exact⟨λi hi=>(hb.cell (p:=(Z g i V)) (show g<W.heap.size by omega)).trans (h.row i hi),h.pk.below hb,h.mp.below hb,h.ne,h.ql.trans (hb.mono K),by have:=hb.size;omega⟩
def FQ.app(h:FQ w0 g bm l pv out n mp W)(k:vY (g+1) pv W pv2 a9n W'):FQ w0 g bm l pv2 a9n n mp W':=by
 have E:=h.lt;have C:∀d,pv.ownBlock=U d->d≠g:=λd hd=>by have:=(h.pk.blk d hd).1;omega
 refine⟨λi hi=> ?_,k.own,h.mp.block (k.kp.block bm h.mp.lt λA=>h.ne bm A rfl),λd hd=> ?_,h.ql.trans (k.kp.below (λc hc A=>by have:=(h.pk.blk c A).1;omega) K),by have:=k.kp.size;omega⟩
 .rw[<-h.row i hi]
  exact mX (w:=W) (a:=(Z g i V)) (k.kp.block g K λA=>C g A rfl)
 .rcases k.at_ with e|⟨q,e,I⟩
  .rw[e]at hd;exact h.ne d hd
  .rw[e]at hd
   cases hd;have:=h.mp.lt;omega
def FQ.put(h:FQ w0 g bm l pv out n mp W)(hl:qU Tk EE W' bm n2 mp2)(k:pX bm W W'):FQ w0 g bm l pv out n2 mp2 W':=by
 have C:=h.lt;have kp:rF (λd=>d=bm) W W':=rF.grown k λb e=>by cases e;rfl
 refine⟨λi hi=> ?_,h.pk.kp kp λd hd=>h.ne d hd,hl,h.ne,h.ql.trans (kp.below (λc hc A=>by omega) K),by have:=kp.size;omega⟩;rw[<-h.row i hi];exact mX (w:=W) (a:=(Z g i V)) (kp.block g K λA=>by omega)
def FQ.up(h:FQ w0 g bm l pv out n mp W):FQ w0 g bm l pv out (n+1) mp W:=⟨h.row,h.pk,h.mp.up (kR n),h.ne,h.ql,h.lt⟩
def FQ.cell0(h:FQ w0 g bm l pv out n mp W){i:Nat}{a b c d:Ax}(hk:yY l i=⟨a,b,c,d⟩)(hi:i+4<=l.length):W.cell? (Z g i V)=U (Y .u8 (a.toNat:Int)):=by
 rw[h.row i K];simp only[yY,Q4.mk.injEq]at hk;rw[hk.1]
def FQ.cell1(h:FQ w0 g bm l pv out n mp W){i:Nat}{a b c d:Ax}(hk:yY l i=⟨a,b,c,d⟩)(hi:i+4<=l.length):W.cell? (Z g (i+1) V)=U (Y .u8 (b.toNat:Int)):=by
 rw[h.row (i+1) K];simp only[yY,Q4.mk.injEq]at hk;rw[hk.2.1]
def FQ.a1g(h:FQ w0 g bm l pv out n mp W){i:Nat}{a b c d:Ax}(hk:yY l i=⟨a,b,c,d⟩)(hi:i+4<=l.length):W.cell? (Z g (i+2) V)=U (Y .u8 (c.toNat:Int)):=by
 rw[h.row (i+2) K];simp only[yY,Q4.mk.injEq]at hk;rw[hk.2.2.1]
def FQ.a1h(h:FQ w0 g bm l pv out n mp W){i:Nat}{a b c d:Ax}(hk:yY l i=⟨a,b,c,d⟩)(hi:i+4<=l.length):W.cell? (Z g (i+3) V)=U (Y .u8 (d.toNat:Int)):=by
 rw[h.row (i+3) K];simp only[yY,Q4.mk.injEq]at hk;rw[hk.2.2.2]
end
def a1i(s:An)(a b:Nat):(s.extract a b).data.toList=(s.data.toList.take b).drop a:=by
 simp[ByteArray.data_extract,List.drop_take]
def a4A{l:List Ax}{st:Qu}{f:Nat}{F:Qu}(h:zA l st)(hi:st.i<l.length)(hF:sP l f st=F)(E:l.length<=st.i+f):∃A,zA l (rY l st)/\sP l A (rY l st)=F/\l.length<=(rY l st).i+A/\(rY l st).i<=l.length:=by
 obtain⟨C,I⟩:=h.step hi;cases f with
 |zero=>omega
 |succ f=>
  rw[sP,AC hi]at hF;exact⟨f,C,hF,K,C.il⟩
def LW{l:List Ax}{n i:Nat}{mp:Yp}{k:Q4}(h:i+4<=l.length)(hk:yY l i=k):rJ l (n+1) i mp=rJ l n (i+1) ((k,i)::mp.filter λp=>p.1 !=k):=by
 rw[rJ,AC h,hk]
def LX{l:List Ax}{n i:Nat}{mp:Yp}(h:¬i+4<=l.length):rJ l (n+1) i mp=rJ l n (i+1) mp:=by
 rw[rJ,As h]
def b0M(b o c:Nat)(W:M):(Instr.arrayAt K4T (u (U (Z b o V)) 4 c)).run jy W=.ok (nG (U (Z b o V))) W:=by
 simp[Instr.arrayAt,run_underlying Tryz.underlying224]
def a1j(w:M):(zeroValue 3).run jy w=.ok (EE.ev 0) w:=nV
def a1k{p:Prop}(h:p:=by
 obtain rfl:q=1:=K;have hmq:mq=rJ l 1 st.i st.mp:=by have:=XA.out;rw[Nat.sub_self]at this;exact this
 subst hmq;have a7s:jI (∃(s2:Qu) (f2:Nat),s2.pend=st.pend/\s2.i=st.i+1/\s2.i<=N/\s2.pend<=s2.i/\zA l s2/\sP l f2 s2=F/\l.length<=s2.i+f2/\FQ w g bm l u5 s2.out s2.i s2.mp wr):=H (by
  obtain⟨f2,a1,a2,a3,a4⟩:=HNX.out;have h5:=JW.out;refine⟨rY l st,f2,?_,?_,by rw[<-KQ.out];exact a4,a1.pi,a1,a2,a3,?_⟩;.rw[HS2.out]
  .rw[HS2.out]
  .rw[HS2.out];exact h5)
 clear XA JW;go_wp2;go_roundw;case rel=>
  obtain⟨s2,f2,e1,e2,e3,e4,e5,e6,e7,e8⟩:=a7s.out;exact⟨s2,f2,by rw[e1]<;>go_num,by rw[e2],e3,e4,H e5,H e6,H e7,H e8⟩
 case measure=>simp[kC];omega):p:=h
def a4B(s:An)(w:M)(hs:s.size<=65536):
  jG jy 147 #[G s] w (qi ⟨(wL s.data.toList).toArray⟩ 0 w):=by
 have dS:=@run_makeMap jy;have dI:=b0M;obtain⟨N,aN⟩:=og s.size;obtain⟨g,hg⟩:=og w.heap.size;obtain⟨l,hl⟩:=og s.data.toList;have bW:l.length=N:=by rw[<-hl,<-aN];exact kH
 obtain⟨dJ,bJ⟩:∃P,qi ⟨(wL s.data.toList).toArray⟩ 0 w=P:=⟨_,rfl⟩;have dK:=H bJ;rw[bJ];obtain⟨cap,w1,aP,aB,aQ,bu,bX,bz⟩:=FP Cr s K w;rw[hg,aN]at aP;rw[hg]at aB bu aQ;rw[aN]at hs bX aB;have aR:jI (∀i,i<l.length->w1.cell? (Z g i V)=U (Y .u8 ((l.getD i 0).toNat:Int))):=H λi hi=>by
  rw[hl]at aB;refine aB.cells rfl i _ ?_;rw[kL,jL hi];simp[oh,jL hi]
 have bY:=H (MN N w1 K);have bZ:=H aQ;have KQ:=H bW;have aZ:=H hl;have dL:cap<=9223372036854775807:=by unfold jN at bz;omega
 have cz:=H hg;clear aB aQ hl bJ bz;go_in;go_wp2_with fail;refine bY.mono ?_;rintro e w2 ⟨rfl,aJ⟩;obtain⟨aO,aS⟩:∃S:An,(⟨(ow N).toArray⟩:An)=S:=⟨_,rfl⟩;have aH:aO.data.toList=ow N:=by rw[<-aS]
 have bK:aO.size<=1000000:=by
  have e:aO.data.toList.length=aO.size:=kH;have:=JS N K;rw[aH]at e;omega
 obtain⟨bL,w3,aT,aK,bA,bB,_,_⟩:=FP Cr aO bK w2;obtain⟨g2,bC⟩:=og w2.heap.size;have bM:g+1<=g2:=by have:=aJ.size;omega
 have cK:jI (∀W,w3.alloc (.map #[] 0)=W->FQ w g (g2+1) l (u (U (Z g2 0 V)) aO.size bL) (ow N) 0 [] W):=H λW dM=>by
  subst dM;rw[bC]at aK bB;have a3:=(jE w3.heap.size w3).alloc (jB _) (.map #[] 0);have b3:jD w1.heap.size w1 w3:=aJ.trans (bA.mono aJ.size);have b4:jD w1.heap.size w1 (w3.alloc (.map #[] 0)):=b3.trans (a3.mono b3.size);have m:=qU.made Tk EE w3;rw[bB]at m;rw[aH]at aK;exact⟨λi hi=>(b4.cell (p:=(Z g i V)) (show g<w1.heap.size by omega)).trans (aR i hi),(aK.base bM).below a3,m,λd hd=>by
   have hd:g2=d:=by simpa [kz]using hd
   omega,bZ.trans (b4.mono K),K,nY,cz.symm⟩
 rw[bC]at aT;rw[aS];clear aK bA aJ bY aR bu;go_upto_region 6 with fail;have cZ:=H (cK _ rfl);generalize w3.alloc _=w4 at*;obtain⟨bm,aU⟩:=og (g2+1);rw[aU]at cZ;rw[aU];obtain⟨F,hF⟩:=og (sP l l.length (uZ l));have df:=H hF;have dh:jI (zA l (uZ l)):=H (zA.ini l (by rw[KQ.out];exact hs));have bN:jI (ow N=(uZ l).out):=H (by rw[<-KQ.out];rfl);clear cK hF aS aH aP aT;go_wp2_with fail;go_loopw [5,7,8] (λpv dN iv aI=>∃(st:Qu) (f:Nat),dN=Y X st.pend/\iv=Y X st.i/\st.i<=N/\st.pend<=st.i/\jI (zA l st)/\jI (sP l f st=F)/\jI (l.length<=st.i+f)/\jI (FQ w g bm l pv st.out st.i st.mp aI)) (λ_ _ iv _=>N -(kC iv).toNat);case atStart=>exact⟨uZ l,l.length,rfl,rfl,ko _,jB _,dh,df,H (by show _<=0+_;omega),by rw[<-bN.out];exact cZ⟩
 case round=>
  obtain⟨st,f,rfl,rfl,aC,dU,aV,dw,dx,E⟩:=hrel;by_cases ci:st.i<N
  .have HNX:jI (∃dz,zA l (rY l st)/\sP l dz (rY l st)=F/\l.length<=(rY l st).i+dz/\(rY l st).i<=l.length):=H (a4A aV (by rw[KQ.out];exact ci) dw dx)
   by_cases c4:st.i+4<=N
   .obtain⟨⟨af,ag,ah,ai⟩,aa⟩:∃k,yY l st.i=k:=⟨_,rfl⟩
    have aj:=H aa;have C:jI (st.i+4<=l.length):=H (by rw[KQ.out];exact c4);have bO:=E.cell0 aj C.out;have bP:=E.cell1 aj C.out;have bQ:=E.a1g aj C.out;have bR:=E.a1h aj C.out;have av:=E.mp.look_ok Tryz.underlying222 a1j (x:=⟨af,ag,ah,ai⟩) trivial;have ax:LV l st=vE st.mp ⟨af,ag,ah,ai⟩:=by unfold LV;rw[AC C.out,aj.out]
    have aA:st.i+4<=cap:=K;have aW:¬cap=st.i:=K;cases aL:vE st.mp ⟨af,ag,ah,ai⟩with
    |none=>
     rw[aL]at av ax;have av:(lV 222 (.map (U bm)) (nI #[Y .u8 (af.toNat:Int),Y .u8 (ag.toNat:Int),Y .u8 (ah.toNat:Int),Y .u8 (ai.toNat:Int)]) R).run jy wr=.ok (nJ #[Y X 0,nH O]) wr:=av;have HS2:jI (rY l st=⟨st.i+1,st.pend,st.out,rJ l 1 st.i st.mp⟩):=H (by unfold rY;rw[ax]);clear aa aL ax;go_wp2_with fail;go_loopw [65,8] (λay iv aI=>∃(q:Nat) (mq:Yp),ay=Y X q/\iv=Y X ((st.i+q:Nat):Int)/\q<=1/\jI (rJ l (1 - q) (st.i+q) mq=rJ l 1 st.i st.mp)/\jI (FQ w g bm l u5 st.out (st.i+q) mq aI)) (λay _ _=>1 -(kC ay).toNat);case atStart=>exact⟨0,st.mp,rfl,rfl,K,H rfl,E⟩
     case round=>
      obtain⟨q,mq,rfl,rfl,dA,XA,JW⟩:=hrel;by_cases bg:q=0
      .subst bg
       have hF:jI (1 - 0=(1 -(0+1))+1):=H K;obtain⟨A,I⟩:=og (st.i+0);have J:=H I;rw[I]at XA JW;simp only[I];have c5:A+4<=N:=K;obtain⟨⟨af,ag,ah,ai⟩,aa⟩:∃k,yY l A=k:=⟨_,rfl⟩;have aj:=H aa;have C:jI (A+4<=l.length):=H (by rw[KQ.out];exact c5);have bO:=JW.cell0 aj C.out;have bP:=JW.cell1 aj C.out;have bQ:=JW.a1g aj C.out;have bR:=JW.a1h aj C.out;have ak:jI (rJ l (1 -(0+1)) (A+1) ((⟨af,ag,ah,ai⟩,A)::mq.filter λp=>p.1 !=⟨af,ag,ah,ai⟩)=rJ l 1 st.i st.mp):=H (by
        rw[<-XA.out];exact(LW C aj).symm)
       have aC:A<N:=K;have aA:A+4<=cap:=K;have aW:¬cap=A:=K;clear aa I;go_wp2_with (refine yx rfl _ _ _ rfl Tryz.underlying222 JW.mp rfl (x:=⟨af,ag,ah,ai⟩) rfl trivial (y:=A) rfl xe ?_;intro bS aD aF;have ae:=H (JW.put aD aF);clear aD aF);go_roundw;case rel=>exact⟨0+1,by go_num,by have:=J.out;go_num,K,(⟨af,ag,ah,ai⟩,A)::mq.filter λp=>p.1 !=⟨af,ag,ah,ai⟩,by rw[show st.i+(0+1)=A+1 by have:=J.out;omega];exact ak,by rw[show st.i+(0+1)=A+1 by have:=J.out;omega];exact ae⟩
       case measure=>(simp[kC]<;>omega)
      .exact a1k
    |some j=>
     rw[aL]at av ax;have av:(lV 222 (.map (U bm)) (nI #[Y .u8 (af.toNat:Int),Y .u8 (ag.toNat:Int),Y .u8 (ah.toNat:Int),Y .u8 (ai.toNat:Int)]) R).run jy wr=.ok (nJ #[Y X (j:Int),nH R]) wr:=av;obtain⟨dW,dB,z3,z4,z5,dD⟩:=JU aV ax;have HS2:jI (rY l st=⟨st.i+rf l j st.i,st.i+rf l j st.i,st.out++yo ((l.take st.i).drop st.pend)++yK (rf l j st.i) (st.i - j),rJ l (rf l j st.i) st.i st.mp⟩):=H (by unfold rY;rw[ax]);obtain⟨aq,bT⟩:=og (rf l j st.i);rw[bT]at z4 z5 dD HS2;rw[KQ.out]at dD;have bD:(s.extract st.pend st.i).data.toList=(l.take st.i).drop st.pend:=by rw[a1i,aZ.out]
     have aG:(s.extract st.pend st.i).size<=65536:=by simp only[jP];omega
     have au:=GI (g+1) u5 st.out (s.extract st.pend st.i) wr E.pk (by have:=aV.ol;omega) aG E.lt.2.1;rw[bD]at au;have au:=H au;have dE:jI (∀W,jG jy 186 #[G s,Y X j,Y X st.i] W λe w'=>e=nK (Y X (aq:Nat))/\jD W.heap.size W w'):=H λW=>by
      have:=a1c s j st.i W (by rw[aN];exact hs) dB (by rw[aN];exact aC);rw[aZ.out,bT]at this;exact this
     have bU:((l.take st.i).drop st.pend).length<=65536:=by rw[kG,kD];omega
     have dF:=NR ((l.take st.i).drop st.pend);have dG:=aV.ol;have bE:(st.out++yo ((l.take st.i).drop st.pend)).length<=1000000:=by rw[jK];omega
     have bq:jI (∀v W,qP W (g+1) 5 v (st.out++yo ((l.take st.i).drop st.pend))->g+1<=W.heap.size->jG jy 187 #[v,Y X (aq:Nat),Y X ((st.i:Int) -(j:Int))] W λe w'=>∃v',e=nK v'/\vY (g+1) v W v' (st.out++yo ((l.take st.i).drop st.pend)++yK aq (st.i - j)) w'):=H λv W bV dO=>by
      rw[show(st.i:Int) -(j:Int)=((st.i - j:Nat):Int)by omega];exact a1b (g+1) v _ aq (st.i - j) W bV bE ⟨z4,z5⟩ K dO
     obtain⟨dP,aX⟩:=og (st.out++yo ((l.take st.i).drop st.pend));rw[aX]at au bq HS2;obtain⟨dQ,aY⟩:=og (dP++yK aq (st.i - j));rw[aY]at bq HS2;clear aa aL ax bD aG bU dF dG bE aX aY bT;have dV:1<=aq:=K;go_wp2_with fail;refine au.mono ?_;rintro e w5 ⟨v1,rfl,az⟩;have aM:=H (E.app az);clear az au bO bP bQ bR av;go_wp2_with fail;refine(dE _).mono ?_;rintro e bS ⟨rfl,bF⟩;have ae:=H (aM.below bF);have dH:=H (bq v1 bS ae.pk ae.lt.2.1);clear bF aM dE bq;go_wp2_with fail;refine dH.mono ?_;rintro e dX ⟨v2,rfl,bG⟩;have E:=H (ae.app bG);clear bG dH ae dB z4 z5 C c4 aA aW;go_wp2_with fail;go_loopw [65,8] (λay iv aI=>∃(q:Nat) (mq:Yp),ay=Y X q/\iv=Y X ((st.i+q:Nat):Int)/\q<=aq/\jI (rJ l (aq - q) (st.i+q) mq=rJ l aq st.i st.mp)/\jI (FQ w g bm l v2 dQ (st.i+q) mq aI)) (λay _ _=>aq -(kC ay).toNat);case atStart=>exact⟨0,st.mp,rfl,rfl,K,H rfl,E⟩
     case round=>
      obtain⟨q,mq,rfl,rfl,dA,XA,JW⟩:=hrel;by_cases bg:q<aq
      .skip
       have hF:jI (aq - q=(aq -(q+1))+1):=H K;obtain⟨A,I⟩:=og (st.i+q);have J:=H I;rw[I]at XA JW;simp only[I];by_cases c5:A+4<=N
       .skip
        obtain⟨⟨af,ag,ah,ai⟩,aa⟩:∃k,yY l A=k:=⟨_,rfl⟩;have aj:=H aa;have C:jI (A+4<=l.length):=H (by rw[KQ.out];exact c5);have bO:=JW.cell0 aj C.out;have bP:=JW.cell1 aj C.out;have bQ:=JW.a1g aj C.out;have bR:=JW.a1h aj C.out;have ak:jI (rJ l (aq -(q+1)) (A+1) ((⟨af,ag,ah,ai⟩,A)::mq.filter λp=>p.1 !=⟨af,ag,ah,ai⟩)=rJ l aq st.i st.mp):=H (by
         rw[<-XA.out,hF.out];exact(LW C aj).symm)
        have aC:A<N:=K;have aA:A+4<=cap:=K;have aW:¬cap=A:=K;clear aa I;go_wp2_with (refine yx rfl _ _ _ rfl Tryz.underlying222 JW.mp rfl (x:=⟨af,ag,ah,ai⟩) rfl trivial (y:=A) rfl xe ?_;intro bS aD aF;have ae:=H (JW.put aD aF);clear aD aF);go_roundw;case rel=>exact⟨q+1,(⟨af,ag,ah,ai⟩,A)::mq.filter λp=>p.1 !=⟨af,ag,ah,ai⟩,by go_num,by have:=J.out;go_num,K,by rw[show st.i+(q+1)=A+1 by have:=J.out;omega];exact ak,by rw[show st.i+(q+1)=A+1 by have:=J.out;omega];exact ae⟩
        case measure=>(simp[kC]<;>omega)
       .skip
        have C:jI (¬A+4<=l.length):=H (by rw[KQ.out];exact c5);have ak:jI (rJ l (aq -(q+1)) (A+1) mq=rJ l aq st.i st.mp):=H (by
         rw[<-XA.out,hF.out];exact(LX C).symm)
        have ae:=H JW.up;have c6:N<A+4:=K;have aC:A<=N:=K;clear I c5;go_wp2;go_roundw;case rel=>exact⟨q+1,mq,by go_num,by have:=J.out;go_num,K,by rw[show st.i+(q+1)=A+1 by have:=J.out;omega];exact ak,by rw[show st.i+(q+1)=A+1 by have:=J.out;omega];exact ae⟩
        case measure=>(simp[kC]<;>omega)
      .obtain rfl:q=aq:=K
       have hmq:mq=rJ l q st.i st.mp:=by have:=XA.out;rw[Nat.sub_self]at this;exact this
       subst hmq;have a7s:jI (∃(s2:Qu) (f2:Nat),s2.pend=st.i+q/\s2.i=st.i+q/\s2.i<=N/\s2.pend<=s2.i/\zA l s2/\sP l f2 s2=F/\l.length<=s2.i+f2/\FQ w g bm l v2 s2.out s2.i s2.mp wr):=H (by
        obtain⟨f2,a1,a2,a3,a4⟩:=HNX.out;have h5:=JW.out;refine⟨rY l st,f2,?_,?_,by rw[<-KQ.out];exact a4,a1.pi,a1,a2,a3,?_⟩;.rw[HS2.out]
        .rw[HS2.out]
        .rw[HS2.out];exact h5)
       clear XA JW;go_wp2;go_roundw;case rel=>
        obtain⟨s2,f2,e1,e2,e3,e4,e5,e6,e7,e8⟩:=a7s.out;exact⟨s2,f2,by rw[e1]<;>go_num,by rw[e2],e3,e4,H e5,H e6,H e7,H e8⟩
       case measure=>simp[kC];omega
   .have C:jI (¬st.i+4<=l.length):=H (by rw[KQ.out];exact c4)
    have HS2:jI (rY l st=⟨st.i+1,st.pend,st.out,rJ l 1 st.i st.mp⟩):=H (by unfold rY LV;rw[As C.out]);clear C;go_wp2_with fail;go_loopw [65,8] (λay iv aI=>∃(q:Nat) (mq:Yp),ay=Y X q/\iv=Y X ((st.i+q:Nat):Int)/\q<=1/\jI (rJ l (1 - q) (st.i+q) mq=rJ l 1 st.i st.mp)/\jI (FQ w g bm l u5 st.out (st.i+q) mq aI)) (λay _ _=>1 -(kC ay).toNat);case atStart=>exact⟨0,st.mp,rfl,rfl,K,H rfl,E⟩
    case round=>
     obtain⟨q,mq,rfl,rfl,dA,XA,JW⟩:=hrel;by_cases bg:q=0
     .subst bg
      have hF:jI (1 - 0=(1 -(0+1))+1):=H K;obtain⟨A,I⟩:=og (st.i+0);have J:=H I;rw[I]at XA JW;simp only[I];have c5:¬A+4<=N:=K;have C:jI (¬A+4<=l.length):=H (by rw[KQ.out];exact c5);have ak:jI (rJ l (1 -(0+1)) (A+1) mq=rJ l 1 st.i st.mp):=H (by
       rw[<-XA.out];exact(LX C).symm)
      have ae:=H JW.up;have c6:N<A+4:=K;have aC:A<=N:=K;clear I c5;go_wp2;go_roundw;case rel=>exact⟨0+1,mq,by go_num,by have:=J.out;go_num,K,by rw[show st.i+(0+1)=A+1 by have:=J.out;omega];exact ak,by rw[show st.i+(0+1)=A+1 by have:=J.out;omega];exact ae⟩
      case measure=>(simp[kC]<;>omega)
     .exact a1k
  .have bH:F=st:=by rw[<-dw.out];exact Ti f st (by rw[KQ.out];exact ci)
   have aG:(s.extract st.pend s.size).data.toList=l.drop st.pend:=by
    have bV:s.data.toList.length=s.size:=kH;rw[a1i,<-bV,lM,aZ.out]
   have bI:wL l=st.out++yo (l.drop st.pend):=by unfold wL;rw[df.out,bH]
   have au:=GI (g+1) u5 st.out (s.extract st.pend s.size) wr E.pk (by have:=aV.ol;omega) (by simp only[jP];omega) E.lt.2.1;rw[aG,<-bI,aN]at au;have au:=H au;clear bH aG bI;go_wp2_with fail;refine au.mono ?_;rintro e w5 ⟨v1,rfl,az⟩;have dR:=az.own.string Cr;have aM:=H (E.app az);clear az au;go_wp2;try go_returns
   rw[<-dK.out,aZ.out];exact⟨rfl,cz.symm▸aM.ql⟩
def EW(size:Nat)(bs acc A:List Ax):Prop:=∀(t:An)(p:Nat)(ar:List Ax),t.size<=9223372036854775807->t.data.toList.drop p=bs++ar->p+bs.length<=t.size->∃k,k<=bs.length/\∀f,vg size (f+k) ⟨t,p,0⟩ acc=vg size f ⟨t,p+bs.length,0⟩ A
def EW.nil(size:Nat)(acc:List Ax):EW size [] acc acc:=λt p ar _ _ _=>⟨0,jB _,λf=>rfl⟩
def EW.app{size:Nat}{b1 A I a2 a3:List Ax}(J:EW size b1 I a2)(N:EW size A a2 a3):EW size (b1++A) I a3:=λt p ar ht hd hp=>by
 rw[jK]at hp;obtain⟨C,aa,e1⟩:=J t p (A++ar) ht (by rw[hd,kX]) K;obtain⟨E,l2,e2⟩:=N t (p+b1.length) ar ht (by rw[<-List.drop_drop,hd,kX,List.drop_left]) K;exact⟨C+E,by rw[jK];omega,λf=>by rw[show f+(C+E)=f+E+C by omega,e1,e2,jK,kK]⟩
section
variable {t:An}{p:Nat}
def a4C{b:Ax}{r:List Ax}(h:t.data.toList.drop p=b::r):∃hp:p<t.size,t[p]=b/\t.data.toList.drop (p+1)=r:=by
 have hl:t.data.toList.length=t.size:=nX;have hp:p<t.data.toList.length:=by
  rcases kQ p t.data.toList.length with A|A
  .exact A
  .rw[List.drop_eq_nil_of_le A]at h;cases h
 rw[nA hp]at h;injection h with C E
 exact⟨K,C,E⟩
def take_drop{a r:List Ax}{n:Nat}(h:t.data.toList.drop p=a++r)(hn:a.length=n)(hp:p+n<=t.size)(ht:t.size<=9223372036854775807):(RS.take ⟨t,p,0⟩ (n:Nat)).1=⟨t,p+n,0⟩/\(RS.take ⟨t,p,0⟩ (n:Nat)).2.data.toList=a:=by
 unfold RS.take;rw[AC rfl,As K,As (by show¬((t.size:Int) - p<n);omega)];refine⟨nX,?_⟩;show(t.extract p (p+(n:Int).toNat)).data.toList=a;rw[Int.toNat_natCast,mF];rw[show p+n - p=n by omega,h,List.take_left' hn]
def EW.one{size:Nat}{b:Ax}{r acc A:List Ax}(h:∀(t:An) (p:Nat) (ar:List Ax),t.size<=9223372036854775807->t.data.toList.drop p=r++ar->p+r.length<=t.size->tK (b.toNat % 4) (rO (b.toNat % 4) (b.toNat/4) ⟨t,p,0⟩) acc size=(⟨t,p+r.length,0⟩,A)):EW size (b::r) acc A:=λt p ar ht hd hp=>by
 obtain⟨hlt,hb,hd2⟩:=a4C hd;rw[j4]at hp|-;refine⟨1,K,λf=> ?_⟩;rw[vg,AC ⟨rfl,hlt⟩];have C:(RS.mk t p 0).byte=(⟨t,p+1,0⟩,(b.toNat:Int)):=by
  unfold RS.byte;rw[AC rfl,dif_pos hlt];show(_,((t[p]).toNat:Int))=_;rw[hb]
 have he:qQ ⟨t,p,0⟩ acc size=(⟨t,p+(r.length+1),0⟩,A):=by
  unfold qQ;rw[C];show tK ((b.toNat:Int).toNat % 4) (rO ((b.toNat:Int).toNat % 4) ((b.toNat:Int).toNat/4) ⟨t,p+1,0⟩) acc size=_;rw[Int.toNat_natCast,h t (p+1) ar ht hd2 K,show p+1+r.length=p+(r.length+1)by omega]
 rw[he]
end
def ofNat_toNat{n:Nat}(h:n<256):(jU n).toNat=n:=by rw[UInt8.toNat_ofNat'];exact Nat.mod_eq_of_lt h
def JX{t:An}{q n size:Nat}{x ar acc:List Ax}(ht:t.size<=9223372036854775807)(hd:t.data.toList.drop q=x++ar)(A:q+x.length<=t.size)(hn:n=x.length)(hs:acc.length+x.length<=size):tK 0 (⟨t,q,0⟩,n,0) acc size=(⟨t,q+x.length,0⟩,acc++x):=by
 subst hn;obtain⟨C,E⟩:=take_drop hd rfl A ht;unfold tK;rw[As nX,As nY,AC rfl];dsimp only;rw[C,E]
def EW.lit{size:Nat}{x acc:List Ax}(N:x.length<=65536)(hs:acc.length+x.length<=size):EW size (yo x) acc (acc++x):=by
 unfold yo Qt;by_cases h0:x.length=0;.rw[AC h0,mh.1 h0];simpa using EW.nil size acc
 rw[As h0];by_cases E:x.length<=60
 .rw[AC E]
  show EW size (jU (4*(x.length - 1))::x) acc (acc++x);refine EW.one λt p ar ht hd hp=> ?_
  rw[ofNat_toNat K,show 4*(x.length - 1) % 4=0 by omega,show 4*(x.length - 1)/4=x.length - 1 by omega];unfold rO;rw[AC rfl,As K];exact JX ht hd hp K hs
 rw[As E];by_cases I:x.length<=256
 .rw[AC I]
  show EW size (240::jU (x.length - 1)::x) acc (acc++x);refine EW.one λt p ar ht hd hp=> ?_
  rw[show(240:Ax).toNat % 4=0 from rfl,show(240:Ax).toNat/4=60 from rfl];rw[j4]at hp|-;obtain⟨A,C⟩:=take_drop (a:=[jU (x.length - 1)]) (r:=x++ar) (n:=1) hd rfl K ht;unfold rO uG;rw[AC rfl,AC nT];rw[show((60:Nat):Int) - 59=((1:Nat):Int)by decide,A,C];have J:pQ [jU (x.length - 1)]=x.length - 1:=by simp only[pQ];rw[ofNat_toNat K];omega
  rw[J,show p+(x.length+1)=p+1+x.length by omega];exact JX ht (by rw[<-List.drop_drop,hd];rfl) K K hs
 rw[As I];show EW size (244::(vL 2 (x.length - 1)++x)) acc (acc++x);refine EW.one λt p ar ht hd hp=> ?_
 rw[show(244:Ax).toNat % 4=0 from rfl,show(244:Ax).toNat/4=61 from rfl];rw[kX]at hd;rw[jK,pY]at hp|-;obtain⟨A,C⟩:=take_drop (a:=vL 2 (x.length - 1)) (n:=2) hd (pY 2 _) K ht;unfold rO uG;rw[AC rfl,AC nT];rw[show((61:Nat):Int) - 59=((2:Nat):Int)by decide,A,C,Iz 2 (x.length - 1) K,show p+(2+x.length)=p+2+x.length by omega];exact JX ht (by rw[<-List.drop_drop,hd,List.drop_left' (pY 2 _)]) K K hs
def JY{L:List Ax}:∀ f n i j:Nat,n<=f->j<i->i+n<=L.length->(∀q,q<n->L[j+q]? =L[i+q]?)->vz f n (i - j) (L.take i)=L.take (i+n)
 |0,n,i,j,h,_,_,_=>by
  obtain rfl:n=0:=K;rfl
 |f+1,n,i,j,h,J,hl,A=>by
  unfold vz;by_cases h0:n=0;.rw[AC h0,h0,nk]
  rw[As h0];obtain⟨m,C⟩:=og (min n (i - j));have N:1<=m/\m<=n/\m<=i - j:=K;rw[C];have E:L.take i++((L.take i).drop ((L.take i).length -(i - j))).take m=L.take (i+m):=by
   rw[kD,mr (by omega:i<=L.length),show i -(i - j)=j by omega];apply List.ext_getElem?;intro k;by_cases hk:k<i;.rw[l6 (by rw[kD];omega),mK,mK,AC hk,AC K]
   .rw[mZ (by rw[kD];omega),kD,mr (by omega:i<=L.length),mK,mK]
    by_cases hk2:k - i<m;.rw[AC hk2,AC K,List.getElem?_drop,mK,AC K,A (k - i) K,show i+(k - i)=k by omega]
    .rw[As hk2,As K]
  rw[E];have:=JY (L:=L) f (n - m) (i+m) (j+m) K K K (λq I=>by rw[show j+m+q=j+(m+q)by omega,A _ K,show i+(m+q)=i+m+q by omega]);rw[show i+m -(j+m)=i - j by omega,show i+m+(n - m)=i+n by omega]at this;exact this
def LY{r:RS}{k n A size:Nat}{acc:List Ax}(h0:r.f=0)(hk:k≠0)(hb:1<=A)(C:A<=acc.length)(hs:acc.length+n<=size):tK k (r,n,A) acc size=(r,vz n n A acc):=by
 unfold tK;rw[As (by simpa using h0),As nY,As hk]
def EW.copy{size n d:Nat}{acc:List Ax}(hn:4<=n/\n<=64)(hd:1<=d/\d<=65535)(A:d<=acc.length)(hs:acc.length+n<=size):EW size (yK n d) acc (vz n n d acc):=by
 unfold yK;by_cases h:n<=11/\d<2048
 .rw[AC h]
  refine EW.one λt p ar ht hdr hp=> ?_
  have I:(1+4*(n - 4)+32*(d/256))<256:=K;rw[ofNat_toNat I,show(1+4*(n - 4)+32*(d/256)) % 4=1 by omega,show(1+4*(n - 4)+32*(d/256))/4=n - 4+8*(d/256)by omega];obtain⟨C,E⟩:=take_drop (n:=1) hdr rfl hp ht;unfold rO uG;rw[As nT,AC rfl];rw[show(1:Int)=((1:Nat):Int)from rfl,C,E,show(n - 4+8*(d/256)) % 8=n - 4 by omega,show(n - 4+8*(d/256))/8=d/256 by omega];have J:pQ [jU (d % 256)]=d % 256:=by simp only[pQ];rw[ofNat_toNat K];omega
  rw[J,show 4+(n - 4)=n by omega,show d/256*256+d % 256=d by omega];exact LY rfl nT hd.1 A hs
 .rw[As h]
  refine EW.one λt p ar ht hdr hp=> ?_
  rw[ofNat_toNat K,show(2+4*(n - 1)) % 4=2 by omega,show(2+4*(n - 1))/4=n - 1 by omega];rw[pY]at hp|-;obtain⟨C,E⟩:=take_drop (n:=2) hdr (pY 2 _) hp ht;unfold rO uG;rw[As nT,As nT,AC rfl];rw[show(2:Int)=((2:Nat):Int)from rfl,C,E,Iz 2 d K,show n - 1+1=n by omega];exact LY rfl nT hd.1 A hs
def JZ{l:List Ax}:∀(f:Nat)(s:Qu),zA l s->zA l (sP l f s)
 |0,_,h=>h
 |f+1,s,h=>by
  unfold sP;split;.rename_i hi;exact JZ f _ (h.step hi).1
  .exact h
def Qy(l:List Ax)(h:l.length<=65536):(wL l).length<=19+8*l.length:=by
 have k:=JZ l.length _ (zA.ini l h);have a:=NR (l.drop (sP l l.length (uZ l)).pend);rw[kG]at a;have:=k.ol;have:=k.pi;have:=k.il;rw[wL,jK];omega
def LZ{l:List Ax}(hl:l.length<=65536):∀(f:Nat)(s:Qu),zA l s->(∃E,s.out=ow l.length++E/\EW l.length E [] (l.take s.pend))->∃E,(sP l f s).out=ow l.length++E/\EW l.length E [] (l.take (sP l f s).pend)
 |0,s,_,h=>h
 |f+1,s,ho,h=>by
  unfold sP;split
  .rename_i hi
   refine LZ hl f _ (ho.step hi).1 ?_;obtain⟨E,A,C⟩:=h;unfold rY;split
   .rename_i j aa
    obtain⟨au,ae,av,af,ag,ah⟩:=JU ho aa;have ak:=ho.pi;have ai:(l.take s.pend)++((l.take s.i).drop s.pend)=l.take s.i:=by
     rw[List.drop_take];have:=List.take_add (l:=l) (i:=s.pend) (j:=s.i - s.pend);rw[show s.pend+(s.i - s.pend)=s.i by omega]at this;exact this.symm
    have I:((l.take s.i).drop s.pend).length=s.i - s.pend:=by rw[kG,kD];omega
    have J:=EW.lit (size:=l.length) (x:=(l.take s.i).drop s.pend) (acc:=l.take s.pend) K (by rw[I,kD];omega);rw[ai]at J;have N:=EW.copy (size:=l.length) (n:=rf l j s.i) (d:=s.i - j) (acc:=l.take s.i) ⟨af,ag⟩ K (by rw[kD];omega) (by rw[kD];omega);rw[JY (rf l j s.i) (rf l j s.i) s.i j (jB _) ae ah (λq aj=>(yL (l:=l) (i:=j) (j:=s.i) 64 0).2.2.2 q (ko _) aj)]at N;refine⟨E++(yo ((l.take s.i).drop s.pend)++yK (rf l j s.i) (s.i - j)),by dsimp only;rw[A];simp,?_⟩;exact C.app (J.app N)
   .exact⟨E,A,C⟩
  .exact h
def XB{l:List Ax}(hl:l.length<=65536):∃E,wL l=ow l.length++E/\EW l.length E [] l:=by
 obtain⟨E,C,I⟩:=LZ hl l.length (uZ l) (zA.ini l hl) ⟨[],by simp[uZ],by simpa [uZ]using EW.nil l.length []⟩;have ho:=JZ l.length (uZ l) (zA.ini l hl);have J:=ho.il;have N:=ho.pi;have A:=EW.lit (size:=l.length) (x:=l.drop (sP l l.length (uZ l)).pend) (acc:=l.take (sP l l.length (uZ l)).pend) (by rw[kG];omega) (by rw[kG,kD];omega);rw[mO]at A;exact⟨E++yo (l.drop (sP l l.length (uZ l)).pend),by rw[wL,C,kX],I.app A⟩
def unpack_pack(l:List Ax)(hl:l.length<=65536)(most:Int)(ai:(l.length:Int)<=most)(mt:Option (Nat×MS))(N:xL l.length mt=0):ry ⟨(wL l).toArray⟩ most mt=(.ok l,rD l.length mt):=by
 obtain⟨E,C,af⟩:=XB hl;have ag:tJ (wL l)=(l.length,(ow l.length).length,0):=by
  unfold tJ;rw[C,yt l.length E K];rw[AC rfl,As (by dsimp only;omega)]
 unfold ry;rw[show(⟨(wL l).toArray⟩:An).data.toList=wL l by simp,ag];dsimp only;rw[As nT,As K,As (by rw[N];decide)];congr 1;obtain⟨t,ht⟩:∃t,(⟨(wL l).toArray⟩:An).extract (ow l.length).length (⟨(wL l).toArray⟩:An).size=t:=⟨_,rfl⟩;have htl:t.data.toList=E:=by
  rw[<-ht,mF];rw[show(⟨(wL l).toArray⟩:An).data.toList=wL l by simp,size_mk,kS (by rw[kG];omega),C,List.drop_left]
 rw[ht];have aa:t.size=E.length:=by rw[<-htl];simp
 have hb:=Qy l hl;have ah:E.length<=19+8*l.length:=by rw[C,jK]at hb;omega
 obtain⟨k,hk,I⟩:=af t 0 [] K (by rw[mM,htl,List.append_nil]) K;have J:=I (t.size+1 - k);rw[show t.size+1 - k+k=t.size+1 by omega,mU]at J;have A:∀f,vg l.length f ⟨t,E.length,0⟩ l=(⟨t,E.length,0⟩,l):=λf=>by
  cases f with
  |zero=>rfl
  |succ f=>rw[vg,As (by simp[aa])]
 rw[A]at J;unfold y7;have ae:RS.of t=⟨t,0,0⟩:=rfl;rw[ae,J];simp
def qC(id:Nat)(b:An):An×Int:=if(ow id).length+b.size<=65536 then(ve id b,0)else(⟨#[]⟩,5)
def J2(id:Nat)(b:An)(w:M)(hid:id<18446744073709551616)(hs:b.size<=9223372036854770000):
  jG jy 104 #[Y nN id,G b] w (qi (qC id b).1 (qC id b).2 w):=by
 unfold qC;by_cases h:(ow id).length+b.size<=65536;.rw[AC h];exact V8 id b w hid h
 .rw[As h];exact(IG id b w hid K hs).mono λe w' h=>⟨h.1,by rw[h.2];exact jE _ _⟩
def rM(s:An):An:=⟨(wL s.data.toList).toArray⟩
def J3(s:An)(hs:s.size<=65536):(rM s).size<=1000000:=by
 have:=Qy s.data.toList (by simpa using hs);have A:s.data.toList.length=s.size:=nX;rw[rM,size_mk];omega
def Qz(id:Nat)(b:An)(w:M)(hid:id<18446744073709551616)(hs:b.size<=65536):
  jG jy 109 #[Y nN id,G b] w (qi (qC id (rM b)).1 (qC id (rM b)).2 w):=by
 have aa:jI (jG jy 147 #[G b] w (qi (rM b) 0 w)):=H (a4B b w hs);have hp:=J3 b hs;have I:=H (λW=>J2 id (rM b) W hid K);generalize rM b=pk at*;obtain⟨ar,J⟩:=og (qC id pk);rw[J]at I|-;obtain⟨T,er⟩:=ar;clear hid hs hp J;go_in;go_wp2_with fail;refine aa.mono ?_;rintro e w2 ⟨rfl,A⟩;have C:=H A;clear A;go_wp2_with fail;refine(I _).mono ?_;rintro e w3 ⟨rfl,E⟩;have N:=H (C.trans (E.mono C.size));clear E;go_wp2;try go_returns
 exact⟨rfl,N.out⟩
def a1l(F:vS)(w W:M)(h:w.alloc (nL #[Y nN F.id,G F.name,G F.body] rq)=W):nU W w.heap.size #[Y nN F.id,G F.name,G F.body] rq/\jD w.heap.size w W:=by
 subst h;exact⟨nU.new w _ _,(jE w.heap.size w).alloc (jB _) _⟩
def NT(c:oO)(F:vS)(w W:M)(g:Nat)(hg:w.heap.size=g)(h:(w.alloc (nL #[Y X c.fmt,Y nO c.mag,Y X c.pV,Y X c.qH,Y X c.dep,Y X c.pq] uk)).alloc (nL #[Y nN F.id,G F.name,G F.body] rq)=W):nU W g #[Y X c.fmt,Y nO c.mag,Y X c.pV,Y X c.qH,Y X c.dep,Y X c.pq] uk/\nU W (g+1) #[Y nN F.id,G F.name,G F.body] rq/\jD w.heap.size w W:=by
 subst h;exact a04
def Ik{p:Prop}(h:p:=by
 go_wp2;go_returns;exact⟨rfl,HB1.out⟩):p:=h
def a1m(F:vS)(w:M):jG jy 97 #[nI #[Y nN F.id,G F.name,G F.body]] w λe w'=>e=nK (nH (At (F.id=0)))/\jD w.heap.size w w':=by
 obtain⟨g,hg⟩:=og w.heap.size;have C:=H (a1l F w);rw[hg]at C;rw[hg];obtain⟨b,hb⟩:=og (At (F.id=0));rw[hb];have I:((F.id:Int)==0)=b:=by rw[<-hb,Bool.eq_iff_iff];simp
 clear hb;go_in;go_upto_region 1 with fail;generalize E:w.alloc _=w1;obtain⟨hB,A⟩:=C.out _ E;have J:=hB.c0;have HB1:=H A;clear E hB A C;exact Ik
def QA(F:vS)(w:M):jG jy 96 #[nI #[Y nN F.id,G F.name,G F.body]] w λe w'=>e=nK (nH (At (F.name.size=0)))/\jD w.heap.size w w':=by
 obtain⟨g,hg⟩:=og w.heap.size;have C:=H (a1l F w);rw[hg]at C;rw[hg];obtain⟨b,hb⟩:=og (At (F.name.size=0));rw[hb];have I:(F.name.toList==([]:List Ax))=b:=by rw[Hm,<-hb]
 clear hb;go_in;go_upto_region 1 with fail;generalize E:w.alloc _=w1;obtain⟨hB,A⟩:=C.out _ E;have J:=hB.c1;have HB1:=H A;clear E hB A C;exact Ik
def Tm{p:Prop}(h:p:=by
 have f2:=hF.c2;have HB1:=H hb1;clear hW hC hF hb1 HI;go_wp2_with fail;refine(CP _).mono ?_;rintro e w2 ⟨rfl,hb2⟩;have HB2:=H (HB1.trans (hb2.mono HB1.size));clear hb2;go_wp2;try go_returns
 exact⟨rfl,HB2.out⟩):p:=h
def a1n(c:oO)(F:vS)(w:M)(A:0<=c.mag/\c.mag<4294967296)(hn:F.name.size<=jN)(hb:F.body.size<=1000000000):jG jy 98 #[nI #[Y X c.fmt,Y nO c.mag,Y X c.pV,Y X c.qH,Y X c.dep,Y X c.pq],nI #[Y nN F.id,G F.name,G F.body]] w (qi (vW c.mag.toNat F.name F.body).1 (vW c.mag.toNat F.name F.body).2 w):=by
 obtain⟨g,hg⟩:=og w.heap.size;have HI:=H (λW=>NT c F w W g hg);have CP:=H (λ(W:M)=>a05 c.mag.toNat F.name F.body W K hn hb);obtain⟨ar,C⟩:=og (vW c.mag.toNat F.name F.body);rw[C]at CP|-;obtain⟨T,er⟩:=ar;clear C;rw[ny A.1]at CP;clear A hn hb;go_in;go_upto_region 1 with fail;generalize hW:(w.alloc _).alloc _=w1;obtain⟨hC,hF,hb1⟩:=HI.out _ hW;have c1:=hC.c1;have f1:=hF.c1;exact Tm
def a1o(c:oO)(F:vS)(w:M)(hid:F.id<18446744073709551616)(hb:F.body.size<=1000000000):jG jy 103 #[nI #[Y X c.fmt,Y nO c.mag,Y X c.pV,Y X c.qH,Y X c.dep,Y X c.pq],nI #[Y nN F.id,G F.name,G F.body]] w (qi (qC F.id F.body).1 (qC F.id F.body).2 w):=by
 obtain⟨g,hg⟩:=og w.heap.size;have HI:=H (λW=>NT c F w W g hg);have CP:=H (λ(W:M)=>J2 F.id F.body W hid K);obtain⟨ar,A⟩:=og (qC F.id F.body);rw[A]at CP|-;obtain⟨T,er⟩:=ar;clear A;clear hid hb;go_in;go_upto_region 1 with fail;generalize hW:(w.alloc _).alloc _=w1;obtain⟨hC,hF,hb1⟩:=HI.out _ hW;have C:=hF.c0;exact Tm
def a1p(c:oO)(F:vS)(w:M)(hid:F.id<18446744073709551616)(C:(F.body.size:Int)<=c.qH)(hb:F.body.size<=65536):jG jy 108 #[nI #[Y X c.fmt,Y nO c.mag,Y X c.pV,Y X c.qH,Y X c.dep,Y X c.pq],nI #[Y nN F.id,G F.name,G F.body]] w (qi (qC F.id (rM F.body)).1 (qC F.id (rM F.body)).2 w):=by
 obtain⟨g,hg⟩:=og w.heap.size;have HI:=H (λW=>NT c F w W g hg);have CP:=H (λ(W:M)=>Qz F.id F.body W hid hb);obtain⟨ar,A⟩:=og (qC F.id (rM F.body));rw[A]at CP|-;obtain⟨T,er⟩:=ar;clear A;have E:At (c.qH<(F.body.size:Int))=O:=nY;clear hid C hb;go_in;go_upto_region 1 with fail;generalize hW:(w.alloc _).alloc _=w1;obtain⟨hC,hF,hb1⟩:=HI.out _ hW;have c3:=hC.c3;have I:=hF.c0;exact Tm
def XC(c:oO)(F:vS)(w:M)(J:c.qH<(F.body.size:Int))(hb:F.body.size<=1000000000):jG jy 108 #[nI #[Y X c.fmt,Y nO c.mag,Y X c.pV,Y X c.qH,Y X c.dep,Y X c.pq],nI #[Y nN F.id,G F.name,G F.body]] w (qi (((⟨#[]⟩,5):An×Int)).1 (((⟨#[]⟩,5):An×Int)).2 w):=by
 obtain⟨g,hg⟩:=og w.heap.size;have C:=H (λW=>NT c F w W g hg);have N:At (c.qH<(F.body.size:Int))=R:=nY;clear J;go_in;go_upto_region 1 with fail;generalize E:(w.alloc _).alloc _=w1;obtain⟨I,hF,A⟩:=C.out _ E;have c3:=I.c3;have f2:=hF.c2;have HB1:=H A;clear E I hF A C;exact Ik
def yg(c:oO)(F:vS):An×Int:=
 if c.fmt=1 then vW c.mag.toNat F.name F.body else if c.fmt=2 then qC F.id F.body else if c.qH<(F.body.size:Int)then(⟨#[]⟩,5)else qC F.id (rM F.body)
def J4(c:oO)(F:vS):Bool:=if c.fmt=1 then At (F.id=0)else At (F.name.size=0)
def vI(c:oO)(F:vS):An×Int:=EB (J4 c F) (yg c F).1 (yg c F).2 (Sr (pU c (yg c F).1 V).1).e
def Af(id:Nat)(b:An)(hid:id<18446744073709551616):(qC id b).1.size<=66000:=by
 unfold qC;split
 .rename_i h
  have A:=sQ 10 ((ow id).length+b.size) (mi h nT);show(ve id b).size<=66000;rw[EZ];omega
 .exact ko _
def QB(m:Nat)(nm b:An):(vW m nm b).1.size<=66000:=by
 unfold vW;split
 .rename_i A
  have:=Ae nm (FO A).2;split
  .show(⟨(EC m nm b).toArray⟩:An).size<=66000
   have hb:b.data.toList.length=b.size:=nX;rw[size_mk];simp only[EC,jK,pY,Cu,hb];omega
  .exact ko _
 .exact ko _
def XD(c:oO)(F:vS)(hid:F.id<18446744073709551616):(yg c F).1.size<=66000:=by
 unfold yg;split;.exact QB _ _ _
 split;.exact Af _ _ hid
 split;.exact ko _
 .exact Af _ _ hid
def a1q(c:oO)(F:vS)(hc:oL c=R)(C:c.wf)(hid:F.id<18446744073709551616)(hn:F.name.size<=jN)(hb:F.body.size<=1000000000):∃f1 f2 f3 f4:FuncId,
  (∀W,lL jy (kP 142 (nI Au) (Y X c.fmt)) W=.ok (nI #[.func (.func f1) #[] #[],.func (.func f2) #[] #[],.func (.func f3) #[] #[],.func (.func f4) #[] #[]]) W)/\
  (∀a W,lL jy (callFunc f1 #[a]) W=.ok (.enter f1 #[a]) W)/\(∀a b W,lL jy (callFunc f2 #[a,b]) W=.ok (.enter f2 #[a,b]) W)/\(∀a b d W,lL jy (callFunc f3 #[a,b,d]) W=.ok (.enter f3 #[a,b,d]) W)/\
  (∀W,jG jy f1 #[nI #[Y nN F.id,G F.name,G F.body]] W λe w'=>e=nK (nH (J4 c F))/\jD W.heap.size W w')/\
  (∀W,jG jy f2 #[nI #[Y X c.fmt,Y nO c.mag,Y X c.pV,Y X c.qH,Y X c.dep,Y X c.pq],nI #[Y nN F.id,G F.name,G F.body]] W (qi (yg c F).1 (yg c F).2 W))/\
  ∀W,jG jy f3 #[nI #[Y X c.fmt,Y nO c.mag,Y X c.pV,Y X c.qH,Y X c.dep,Y X c.pq],nG V,G (yg c F).1] W λe w'=>e=nK (Sr (pU c (yg c F).1 V).1).v/\jD W.heap.size W w':=by
 have af:=p8 hc;have ag:=XD c F hid;have I:0<=c.mag/\c.mag<4294967296:=by
  have:=C.2.1;simp[Lit.wf,IntKind.min,IntKind.max,IntKind.signed,IntKind.bits]at this;omega
 have N:(yg c F).1.size<=jN:=xe;have key:∀k:Nat,c.fmt=k->∀f,Y5 k=.func (.func f) #[] #[]->∀W,jG jy f #[nI #[Y X c.fmt,Y nO c.mag,Y X c.pV,Y X c.qH,Y X c.dep,Y X c.pq],nG V,G (yg c F).1] W λe w'=>e=nK (Sr (pU c (yg c F).1 V).1).v/\jD W.heap.size W w':=by
  intro k hk f aa W;obtain⟨ah,E,hcall⟩:=Ph c k hk (yg c F).1 V W N hc C trivial;rw[aa]at E;cases E;exact hcall.mono λe ai h=>by
   obtain⟨A,_,ae⟩:=Lx.1 h;exact⟨ae,A.os,A.tape,A.output,A.size,λk hk=>A.block k hk (by simp[oQ])⟩
 have hk:c.fmt=1\/c.fmt=2\/c.fmt=3:=K;rcases hk with hk|hk|hk
 .have hix:=Uw
  rw[<-hk]at hix;refine⟨_,_,_,_,hix,λ_ _=>rfl,λ_ _ _=>rfl,λ_ _ _ _=>rfl,?_,?_,key 1 hk _ rfl⟩;.rw[J4,AC hk];exact a1m F
  .rw[yg,AC hk];exact λW=>a1n c F W I hn hb
 .have hix:=Ux
  rw[<-hk]at hix;refine⟨_,_,_,_,hix,λ_ _=>rfl,λ_ _ _=>rfl,λ_ _ _ _=>rfl,?_,?_,key 2 hk _ rfl⟩;.rw[J4,As K];exact QA F
  .rw[yg,As K,AC hk];exact λW=>a1o c F W hid hb
 .have hix:=Uy
  rw[<-hk]at hix;refine⟨_,_,_,_,hix,λ_ _=>rfl,λ_ _ _=>rfl,λ_ _ _ _=>rfl,?_,?_,key 3 hk _ rfl⟩;.rw[J4,As K];exact QA F
  .rw[yg,As K,As K]
   by_cases J:c.qH<(F.body.size:Int);.rw[AC J];exact λW=>XC c F W J hb
   .rw[As J];exact λW=>a1p c F W hid K K
def a1r(c:oO)(F:vS)(w:M)(hc:oL c=R)(C:c.wf)(hid:F.id<18446744073709551616)(hn:F.name.size<=jN)(hb:F.body.size<=1000000000):
  jG jy 37 #[nI #[Y X c.fmt,Y nO c.mag,Y X c.pV,Y X c.qH,Y X c.dep,Y X c.pq],nI #[Y nN F.id,G F.name,G F.body]] w (qi (vI c F).1 (vI c F).2 w):=by
 obtain⟨f1,f2,f3,f4,hix,E,I,J,A,hput,hnext⟩:=a1q c F hc C hid hn hb;exact Xy c F f1 f2 f3 f4 _ _ _ _ w hc hix E I J A (λ_ W _=>hput W) (λ_=>hnext)
end
section
def wU(t:nS TL)(a:IL)(n:Nat):List Ax:=
 if t.lab.kind=1 then vL t.lab.size.toNat (pM a.text).1 else if t.lab.kind=2 then a.text else if t.lab.kind=3 then vk a.text.length++a.text else if t.lab.kind=4 then vk n else []
mutual
def wM:nS IL->nS TL->List Ax
 | .node a s,t=>wU t a s.length++uM s t 0
def uM:List (nS IL)->nS TL->Nat->List Ax
 |[],_,_=>[]
 |x::xs,t,i=>(match qm t i with|some y=>wM x y|none=>[])++uM xs t (i+1)
end
def L6{s:List (nS IL)}{k:Nat}(h:s[k]? =U x)(hy:qm t k=U y):uM (s.drop k) t k=wM x y++uM (s.drop (k+1)) t (k+1):=by
 obtain⟨hk,hk2⟩:=lu.1 h;rw[nA hk,hk2,uM,hy]
def zB{C A tl:Int}{ts:List (nS TL)}{a:IL}{n:Nat}(h:qX (.node ⟨C,A,tl⟩ ts) a n=R)(hk:C=1\/C=2\/C=3):(a.text.length:Int)<=A/\a.list=O:=by
 rcases hk with rfl|rfl|rfl
 .have e:qX (.node ⟨1,A,tl⟩ ts) a n=yC ⟨1,A,tl⟩ a:=by simp[qX]
  rw[e]at h;simp only[yC,jJ,decide_eq_true_eq,Bool.not_eq_true']at h;exact⟨h.2,h.1.1⟩
 .have e:qX (.node ⟨2,A,tl⟩ ts) a n=ze ⟨2,A,tl⟩ a:=by simp[qX]
  rw[e]at h;simp only[ze,jJ,decide_eq_true_eq,Bool.not_eq_true']at h;exact⟨K,h.1⟩
 .have e:qX (.node ⟨3,A,tl⟩ ts) a n=zf ⟨3,A,tl⟩ a:=by simp[qX]
  rw[e]at h;simp only[zf,jJ,decide_eq_true_eq,Bool.not_eq_true']at h;exact⟨h.2,h.1⟩
def QC{C A tl:Int}{ts:List (nS TL)}{a:IL}{n:Nat}(h:qX (.node ⟨C,A,tl⟩ ts) a n=R)(hk:C=4\/C=5):if C=4 then(n:Int)<=A else n<=ts.length:=by
 rcases hk with rfl|rfl
 .have e:qX (.node ⟨4,A,tl⟩ ts) a n=Ak ⟨4,A,tl⟩ a n:=by simp[qX]
  rw[e]at h;simp only[Ak,jJ,decide_eq_true_eq]at h;exact h.2
 .have e:qX (.node ⟨5,A,tl⟩ ts) a n=yD ⟨5,A,tl⟩ ts.length a n:=by simp[qX]
  rw[e]at h;simp only[yD,jJ,decide_eq_true_eq]at h;exact h.1.2
def XE(l:List Ax)(k:Nat)(h:l.length<=k)(hk:k<=8):(pM l).1<256^k/\(pM l).1<18446744073709551616:=by
 have A:(pM l).1<256^l.length:=by
  unfold pM;split;.simp
  .split
   .exact Nat.pow_pos nT
   .split
    .exact Nat.pow_pos nT
    .exact Hg _
 have C:=lG (show 0<256 by decide) h;have E:=lG (show 0<256 by decide) hk;exact⟨K,K⟩
def FR{k:Nat}(h:t.all oJ=R)(hy:t.sub[k]? =U y):y.all oJ=R:=by
 cases A:y.all oJ with
 |true=>rfl
 |false=>
  obtain⟨a,s⟩:=t;simp only[nS.all,jJ]at h;simp only[nS.rE]at hy;rw[nS.uH hy A]at h;cases h.2
def EF:∀{s:List (nS IL)}{i k:Nat},sF s t i=R->s[k]? =U x->∃y,qm t (i+k)=U y/\rH x y=R
 |[],_,k,_,h=>by simp at h
 |z::s,i,0,A,h=>by
  simp only[jS,mI]at h;subst h;simp only[sF,jJ]at A;cases C:qm t i with
  |none=>rw[C]at A;exact absurd A.1 nX
  |some y=>rw[C]at A;exact⟨y,rfl,A.1⟩
 |z::s,i,k+1,A,h=>by
  simp only[sF,jJ]at A;obtain⟨y,E,I⟩:=EF (s:=s) (i:=i+1) A.2 (by simpa using h);exact⟨y,by rw[<-E];congr 1;omega,I⟩
end
section
open Go.RowKit Go.Shelf
def bInfo:(Tryz.prog.info? 204).map (·.size)=U 2:=nV
def a9o:liesAt jy Tryz.prog.depth 204 (2/Tryz.prog.cellsOf 204) 0 204 1=R:=nV
def a1s:(Tryz.prog.info? 5).map (λi=>(i.zero,i.size,i.bytes))=U (U (Y .u8 0),1,1):=nV
def Bw(b:Nat)(w:M)(h0:w.cell? (Z b 0 V)=U (nG (U (Z b 0 V)))):
  jG jy 244 #[nG (U (Z b 0 V))] w λe w'=>e=nK (nJ #[])/\w'=w:=by
 obtain⟨j,A,_⟩:=Option.map_eq_some_iff.1 bInfo;go_in;go_wp2;rw[Lib.run_neq_ptr_same w _ Tryz.underlying202 A];go_wp2;go_end0;exact⟨rfl,rfl⟩
def Ap(b:Nat)(w:M)(h0:w.cell? (Z b 0 V)=U (nG V))(A:w.shape? b=U (204,2))(I:w.frozen? (Z b 0 V)=O):
  jG jy 244 #[nG (U (Z b 0 V))] w λe w'=>e=nK (nJ #[])/\w'=w.setCell (Z b 0 V) (nG (U (Z b 0 V))):=by
 obtain⟨j,C,E⟩:=Option.map_eq_some_iff.1 bInfo;go_in;go_wp2;rw[Lib.run_to_unsafe w (Z b 0 V) Tryz.underlying202 Tryz.underlying298 C (by rw[E];decide) A (Nat.zero_lt_succ 1)];simp only[Result.andThen];rw[Oper.upon_value];go_wp2;rw[run_callFunc_extern Tryz.func269 nV nV nV (e:=Extern.AbiNoEscape.same) nV];rw[Lib.run_noEscape];simp only[Result.andThen];rw[Oper.upon_value];go_wp2;rw[Lib.run_from_unsafe w (Z b 0 V) Tryz.underlying298 Tryz.underlying202 C A a9o];simp only[Result.andThen];rw[Oper.upon_value];go_wp2;go_end0;exact⟨rfl,rfl⟩
def copyCheck(B b:Nat)(bs:List jC)(w:M)(h:Lib.IsBuilder 204 5 B b bs w):
  jG jy 244 #[nG (U (Z b 0 V))] w λe w'=>e=nK (nJ #[])/\(Lib.BuilderAt 204 5 B b (nG (U (Z b 0 V))) bs w'/\jD B w w'):=by
 rcases h with h|h
 .refine(Ap b w h.cell0 h.shape h.frozen0).mono ?_
  rintro e w' ⟨rfl,rfl⟩;exact⟨rfl,h.used _,(jE B w).setCell (p:=(Z b 0 V)) h.1 _⟩
 .refine(Bw b w h.cell0).mono ?_
  rintro e w' ⟨rfl,rfl⟩;exact⟨rfl,h,jE B _⟩
def a4D(B b:Nat)(l:List Ax)(w:M)(h:Lib.IsBuilder 204 5 B b (Lib.byteCells l) w)(A:B<=w.heap.size):
  jG jy 169 #[nG (U (Z b 0 V))] w λe w'=>e=nK (G ⟨l.toArray⟩)/\jD B w w':=Tryz.Builder_String_any B b l w h A
def KR(l m:List Ax):Lib.byteCells (l++m)=Lib.byteCells l++Lib.byteCells m:=by simp[Lib.byteCells]
def KT(w w':M):Prop:=∀(k:Nat)(cs:Array jC)(T:jX)(fr:Nat×Nat),(T !=5&&T !=204)=R->w.heap[k]? =U (nL cs T fr)->w'.heap[k]? =U (nL cs T fr)
def KT.refl(w:M):KT w w:=λ_ _ _ _ _ h=>h
def KT.trans{ao v w:M}(h:KT ao v)(k:KT v w):KT ao w:=λa b c d n e=>k a b c d n (h a b c d n e)
def KT.of{w w':M}(h:jD w.heap.size w w'):KT w w':=λk cs T fr _ hk=>by rw[h.block k (j6.1 hk).1];exact hk
def KT.set{w:M}{b i:Nat}(h:∃cs fr,w.heap[b]? =U (nL cs 204 fr))(v:jC):KT w (w.setCell (Z b i V) v):=λk cs T fr A hk=>by
 rw[jW _ _ _ _ (λe=>by
  simp at e;subst e;obtain⟨c,f,h⟩:=h;rw[h]at hk;cases hk;exact absurd A nT)]
 exact hk
def a7t{w:M}{B:Nat}{v:jC}{n:Nat}{xs:List jC}(h:w.ownsRow B 5 1 v n xs){k:Nat}{cs:Array jC}{T:jX}{fr:Nat×Nat}(C:(T !=5&&T !=204)=R)(A:v.ownBlock=U k)(hk:w.heap[k]? =U (nL cs T fr)):False:=by
 rcases h.2 with⟨rfl,_⟩|⟨g,cap,E,rfl,_,hg,_⟩
 .cases A
 .cases A
  rw[hg]at hk;cases hk;exact absurd C nT
def Tn(B b:Nat)(bs:List jC)(w:M)(h:Lib.IsBuilder 204 5 B b bs w):
  jG jy 244 #[nG (U (Z b 0 V))] w λe w'=>e=nK (nJ #[])/\(Lib.BuilderAt 204 5 B b (nG (U (Z b 0 V))) bs w'/\jD B w w'/\KT w w'):=by
 rcases h with h|h
 .refine(Ap b w h.cell0 h.shape h.frozen0).mono ?_
  rintro e w' ⟨rfl,rfl⟩;obtain⟨v,A,_⟩:=h.2;exact⟨rfl,h.used _,(jE B w).setCell (p:=(Z b 0 V)) h.1 _,KT.set ⟨_,_,A⟩ _⟩
 .refine(Bw b w h.cell0).mono ?_
  rintro e w' ⟨rfl,rfl⟩;exact⟨rfl,h,jE B _,KT.refl _⟩
def NU(B b:Nat)(bs:List jC)(s:An)(w:M)(h:Lib.IsBuilder 204 5 B b bs w)(hlen:bs.length+s.size<=140737488355328)(aA:B<=w.heap.size):
  jG jy 207 #[nG (U (Z b 0 V)),G s] w λe w'=>e=nK (nJ #[Y X s.size,.nilIface])/\(Lib.BuilderAt 204 5 B b (nG (U (Z b 0 V))) (bs++mD s) w'/\jD B w w'/\KT w w'):=by
 obtain⟨av,hi,af,ag,ah⟩:=info_parts a1s;have ax:=H (Tn B b bs w h);go_in;go_wp2_with fail;refine ax.mono ?_;rintro e w1 ⟨rfl,ay,J,ai⟩;obtain⟨hB,v,N,C,aj⟩:=ay;have c1:w1.cell? (Z b 1 V)=U v:=by rw[Lib.cell_of_heap N];rfl
 go_wp2_with (at_builtin;refine Lib.wpList_append_own_string _ rfl _ _ 86 9 rfl B 5 av lq lU hi af ag ah _ _ _ rfl C s rfl ?c3 ?c4 ?c5 ?_);case c3=>unfold jN;omega
 case c4=>omega
 case c5=>have:=J.size;omega
 intro v' w2 E A _;have hlt:b<w1.heap.size:=by
  rcases kQ b w1.heap.size with aa|aa
  .exact aa
  .simp[Array.getElem?_eq_none aa]at N
 have I:w2.heap[b]? =U (nL #[nG (U (Z b 0 V)),v] 204 (0,0)):=by
  rw[A.block b hlt (λe=>aj e.symm)];exact N
 have aC:w2.cell? (Z b 1 V)=U v:=by rw[Lib.cell_of_heap I];rfl
 have f1:w2.frozen? (Z b 1 V)=O:=Lib.frozen_of_heap I 1;obtain⟨ak,au,cap,rfl⟩:∃ak au cap,v'=u ak au cap:=by
  rcases E.2 with⟨ae,_⟩|⟨g,cap,aB,ae,_⟩
  .exact⟨_,_,_,ae⟩
  .exact⟨_,_,_,ae⟩
 go_wp2;go_ret2;refine⟨rfl,?_,?_,?_⟩;.exact Lib.BuilderAt.put (T:=204) (e:=5) hB I (bs':=bs++mD s) (by simpa [Lib.strCells_length]using E) nT
 .exact(J.grown A (by have:=J.size;omega) (λk hk=>(C.lt k hk).1)).setCell (p:=(Z b 1 V)) hB _
 .refine ai.trans (KT.trans ?_ (KT.set ⟨_,_,I⟩ _))
  exact λk cs T fr az hk=>by
   rw[A.block k (j6.1 hk).1 (λe=>a7t C az e.symm hk)];exact hk
def BF(B b:Nat)(l:List Ax)(w:M):Prop:=Lib.IsBuilder 204 5 B b (Lib.byteCells l) w
def a1t(B b:Nat)(l m:List Ax)(w:M)(h:BF B b l w)(hlen:l.length+m.length<=100000000)(hB:B<=w.heap.size):
  jG jy 207 #[nG (U (Z b 0 V)),G ⟨m.toArray⟩] w λe w'=>(∃v,e=nK v)/\BF B b (l++m) w'/\jD B w w'/\KT w w':=by
 have hl:(Lib.byteCells l).length=l.length:=by simp[Lib.byteCells]
 refine(NU B b (Lib.byteCells l) ⟨m.toArray⟩ w h (by rw[hl];have:(⟨m.toArray⟩:An).size=m.length:=lK;omega) hB).mono λe w' ⟨A,C,E,I⟩=>⟨⟨_,A⟩,?_,E,I⟩
 unfold BF;rw[KR];exact .inr C
def BA.below{T e:jX}{B b:Nat}{p:jC}{bs:List jC}{w w':M}(h:Lib.BuilderAt T e B b p bs w)(hb:jD w.heap.size w w'):Lib.BuilderAt T e B b p bs w':=by
 obtain⟨I,v,A,J,N⟩:=h;refine⟨I,v,by rw[hb.block b (j6.1 A).1];exact A,?_,N⟩;obtain⟨aa,g2⟩:=J;refine⟨aa,?_⟩;rcases g2 with g2|⟨g,cap,C,ae,hg,E,r⟩
 .exact .inl g2
 .refine .inr ⟨g,cap,C,ae,hg,?_,r⟩
  rw[hb.block g (j6.1 E).1];exact E
def BF.below{B b:Nat}{l:List Ax}{w w':M}(h:BF B b l w)(hb:jD w.heap.size w w'):BF B b l w':=by
 rcases h with h|h
 .exact .inl (BA.below h hb)
 .exact .inr (BA.below h hb)
end
end Go.Proofs.YtamfcjmhnndbdaaGreatDoor


