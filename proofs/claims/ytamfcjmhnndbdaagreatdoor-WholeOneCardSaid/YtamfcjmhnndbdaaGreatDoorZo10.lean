/- Part 10 of the proof. -/
import Derived.Test.YtamfcjmhnndbdaaGreatDoorZoA
import Derived.Test.YtamfcjmhnndbdaaGreatDoorZo00
import Derived.Test.YtamfcjmhnndbdaaGreatDoorZo05
import Derived.Test.YtamfcjmhnndbdaaGreatDoorZo04
import Derived.Test.YtamfcjmhnndbdaaGreatDoorZo07
import Derived.Test.YtamfcjmhnndbdaaGreatDoorZo08
import Derived.Test.YtamfcjmhnndbdaaGreatDoorZo09
import Derived.Deep.RegionWith
import Derived.Deep.RegionHeld3
import Derived.Lib.AppendStr
import Derived.Deep.AppendLies
open Go.Value renaming agg→nI,bool→nH,int→Y,pointer→nG,slice→u,string→G,tuple→nJ,slice→kI
open Go.Obj renaming cells→nL
open Go.IntKind renaming i64→X,u32→nO,u64→nN
open Go.Ending renaming returned→nK
open Go.Lib renaming hid→H,strCells→mD
open Go.Proofs.Tryz renaming prog→jy
open Go renaming World→M,Value→jC,Calls→jG,maxLen→jN,bodyPost_ret→jO,TypeId→jX,undef→ku,results→kF,Addr→kW,Oper→lJ,Program→lQ
open Nat renaming le_refl→jB,le_trans→jM,lt_of_lt_of_le→jZ,zero_le→ko,le_succ→kR,le_of_eq→lZ,lt_of_le_of_lt→mi
open Go.RowKit renaming Below→jD,Hid→jI,intOf→kC
open Go.RowKit.Below renaming refl→jE,heap_setCell→jW
open And renaming intro→jF
open List renaming setIfInBounds_toArray→jH,length_append→jK,getElem?_eq_getElem→jL,set_cons_zero→jQ,set_cons_succ→jR,getElem?_cons_zero→jS,getElem?_cons_succ→jT,getElem?_toArray→jV,take_succ_cons→jY,mem_of_getElem?→kE,take_zero→kJ,append_assoc→kX,getElem?_eq_some_iff→lu,mem_cons→l5,map_cons→mf,map_nil→ng,drop_eq_getElem_cons→nA
open Bool renaming and_eq_true→jJ
open UInt8 renaming ofNat→jU,toNat_inj→lX
open Go.World renaming setCell→j5,cell?_of_block→mX
open Option renaming bind_some→kr
open Array renaming length_toList→kH
open Go.Code renaming region→kT
open Go.Lit renaming int→kY
open Go.Sem renaming run→lL
open Go.Instr renaming lookup→lV
open Option.some renaming inj→mg
open Go.Act renaming put→mR
open Option renaming none→V,some→U
open Bool renaming true→R,false→O
open Go.Addr renaming mk→Z
open Decidable renaming decide→At
namespace Go.Proofs.YtamfcjmhnndbdaaGreatDoor
set_option linter.unusedVariables false
set_option linter.defProp false
set_option linter.unusedSimpArgs false
set_option maxRecDepth 100000
set_option maxHeartbeats 8000000
variable {a a0:Act}{o:lJ}{x:nS TL}{P:lQ}{ops:Array lJ}
section
open Go.RowKit
structure Cb(w0:M)(b g:Nat)(s:An)(p l:Nat)(w:M):Prop where
 upd:pX b w0 w
 rd:ui w b s p l
 box:w.cell? (Z g 0 V)=U (nG (U (Z b 0 V)))
 res:∃cs,nU w (g+1) cs TT/\cs.size=4
 hp:p<=s.size
 hl:l<=64
 hg:g+2<=w.heap.size
 h0:w0.heap.size=g
 hb:b<g
def Cb.sub{w0 w w':M}{b g p l C E:Nat}{s:An}(h:Cb w0 b g s p l w)(A:pX b w w')(I:ui w' b s C E)(hp:C<=s.size)(hl:E<=64):Cb w0 b g s C E w':=by
 obtain⟨cs,J,N⟩:=h.res;have aa:=h.hb;have hg:=h.hg;refine⟨h.upd.trans A,I,?_,⟨cs,A.blk J K,N⟩,hp,hl,jM h.hg A.size,h.h0,h.hb⟩;rw[mX (w:=w) (A.block g K (by simpa using by omega))];exact h.box
def Cb.drewN{w0 w:M}{b g p l:Nat}{s:An}(h:Cb w0 b g s p l w)(n:Nat):Cb w0 b g s p l (w.drewN n):=h.sub ((pX.refl _ _).drewN n) (h.rd.drewN n) h.hp h.hl
def Cb.less{w0 w:M}{b g p l:Nat}{s:An}(h:Cb w0 b g s p l w)(A:1<=l):Cb w0 b g s p (l - 1) (w.setCell (Z b 2 V) (Y X ((l:Int) - 1))):=by
 refine h.sub ((pX.refl _ _).set 2 _) ?_ h.hp (by have:=h.hl;omega);have:=h.rd.left (l - 1);rwa [show((l - 1:Nat):Int)=(l:Int) - 1 by omega]at this
def Cb.next{w0 w:M}{b g p l:Nat}{s:An}(h:Cb w0 b g s p l w)(A:p<s.size):Cb w0 b g s (p+1) l (w.setCell (Z b 1 V) (Y X ((p:Int)+1))):=by
 refine h.sub ((pX.refl _ _).set 1 _) ?_ K h.hl;have:=h.rd.move (p+1);rwa [show((p+1:Nat):Int)=(p:Int)+1 by omega]at this
def Cb.r0{w0 w:M}{b g p l:Nat}{s:An}(h:Cb w0 b g s p l w):(∃x,w.cell? (Z (g+1) 0 V)=U x)/\(∃x,w.cell? (Z (g+1) 1 V)=U x)/\(∃x,w.cell? (Z (g+1) 2 V)=U x)/\(∃x,w.cell? (Z (g+1) 3 V)=U x)/\
  w.frozen? (Z (g+1) 0 V)=O/\w.frozen? (Z (g+1) 1 V)=O/\w.frozen? (Z (g+1) 2 V)=O/\w.frozen? (Z (g+1) 3 V)=O:=by
 obtain⟨⟨l⟩,A,C⟩:=h.res
 match l,C with
 |[x,y,z,ao],_=>exact⟨⟨x,A.cell 0⟩,⟨y,A.cell 1⟩,⟨z,A.cell 2⟩,⟨ao,A.cell 3⟩,A.free 0,A.free 1,A.free 2,A.free 3⟩
def Cb.start{w:M}{b:Nat}{s:An}{p l:Nat}(I:ui w b s p l)(hp:p<=s.size)(hl:l<=64):
  ∀W,(w.alloc (nL #[nG (U (Z b 0 V))] 206)).alloc (nL #[Y X 0,Y X 0,u V 0 0,Y X 0] TT)=W->Cb w b w.heap.size s p l W:=by
 rintro W rfl;have C:=(jE w.heap.size w).alloc (jB _) (nL #[nG (U (Z b 0 V))] 206);have J:=nU.new w #[nG (U (Z b 0 V))] 206;have N:=I.below C;have aa:(w.alloc (nL #[nG (U (Z b 0 V))] 206)).heap.size=w.heap.size+1:=nX;generalize w.alloc (nL #[nG (U (Z b 0 V))] 206)=w1 at*;have A:=(jE w1.heap.size w1).alloc (jB _) (nL #[Y X 0,Y X 0,u V 0 0,Y X 0] TT);have E:=nU.new w1 #[Y X 0,Y X 0,u V 0 0,Y X 0] TT;rw[aa]at E;refine⟨(pX.of C).trans (pX.of A),N.below A,(Below.blk A J K).cell 0,⟨_,E,rfl⟩,hp,hl,nY,rfl,I.lt⟩
def Cb.far{w0 w:M}{b g p l:Nat}{s:An}(h:Cb w0 b g s p l w){k:Nat}(hk:g+2<=k)(i:Nat)(v:jC):Cb w0 b g s p l (w.setCell (Z k i V) v):=by
 obtain⟨cs,A,C⟩:=h.res;have I:=h.hb;have E:=h.h0;refine⟨h.upd.CW (a:=(Z k i V)) (show w0.heap.size<=k by omega) v,nU.setOther h.rd nY v,?_,⟨cs,A.setOther nY v,C⟩,h.hp,h.hl,by simpa [j5]using h.hg,E,h.hb⟩;rw[mX (w:=w) (jW _ _ _ _ nY)];exact h.box
def Cb.alloc{w0 w:M}{b g p l:Nat}{s:An}(h:Cb w0 b g s p l w)(cs:Array jC)(t:jX):∀W,w.alloc (nL cs t)=W->Cb w0 b g s p l W/\nU W w.heap.size cs t/\jD w.heap.size w W:=by
 rintro W rfl;have A:=(jE w.heap.size w).alloc (jB _) (nL cs t);exact⟨h.sub (pX.of A) (h.rd.below A) h.hp h.hl,nU.new w _ _,A⟩
def Cb.fin{w0 w:M}{b g p l:Nat}{s:An}(h:Cb w0 b g s p l w)(a:TL)(o:Option kW)(n c:Nat)(ok:Bool){ar:Option (nS TL×List Ax×Nat)}(N:ok=R->∃sub,ar=U (.node a sub,nW s p,l)/\TL.wf a/\oD.om w (λk=>g+2<=k) (u o n c) sub)(aa:ok=O->ar=V){A B C D:jC}(ae:A=Y X a.kind)(E:B=Y X a.size)(af:C=u o n c)(ag:D=Y X a.tail):
  (qM w (g+1) A B C D).cell? (Z (g+1) 0 V)=U A/\(qM w (g+1) A B C D).cell? (Z (g+1) 1 V)=U B/\(qM w (g+1) A B C D).cell? (Z (g+1) 2 V)=U C/\(qM w (g+1) A B C D).cell? (Z (g+1) 3 V)=U D/\
   uF ar b s w0 (nK (nJ #[nI #[A,B,C,D],nH ok])) (qM w (g+1) A B C D):=by
 subst ae E af ag;obtain⟨cs,I,J⟩:=h.res;have hB:=xG (a:=Y X a.kind) (b:=Y X a.size) (c:=u o n c) (d:=Y X a.tail) I J;have au:=h.h0;have ak:=h.hb;refine⟨hB.cell 0,hB.cell 1,hB.cell 2,hB.cell 3,a,o,n,c,ok,p,l,rfl,Ev h.upd K,Ab h.rd K,h.hp,h.hl,λe=> ?_,aa⟩;obtain⟨sub,ah,ai,aj⟩:=N e;exact⟨sub,ah,ai,(xE aj (λk hk=>by omega)).keep (jB _) (λk _ hk=>by omega) λ_ _ _=>rfl⟩
def Vn{p:Prop}(h:p:=by
 have e1:IntKind.i64.min= -9223372036854775808:=rfl;have e2:IntKind.i64.max=9223372036854775807:=rfl;simp[Lit.wf,e1,e2];omega):p:=h
def JP{k:Int}(h0:0<=k)(A:k<=65536):(kY X k).wf=R:=by
 exact Vn
def LQ{k z t:Int}(h:(0<=k/\k<=65536)/\(0<=z/\z<=65536)/\(0<=t/\t<=65536)):TL.wf ⟨k,z,t⟩:=⟨JP h.1.1 h.1.2,JP h.2.1.1 h.2.1.2,JP h.2.2.1 h.2.2.2⟩
def Ey(S:Shape TL)(w:M)(Q:Nat->Prop):S.om w Q (u V 0 0) []:=⟨V,0,rfl,jB _,ko _,λh=>absurd h nX⟩
def Qn{w:M}{Q:Nat->Prop}{k:Nat}{a:TL}{o:Option kW}{n c:Nat}{sub:List (nS TL)}(hB:nU w k #[Y X a.kind,Y X a.size,u o n c,Y X a.tail] TT)(A:TL.wf a)(hs:oD.om w Q (u o n c) sub)(C:Q k):oD.om w Q (u (U (Z k 0 V)) 1 1) [.node a sub]:=by
 refine⟨U (Z k 0 V),1,rfl,jB _,by unfold jN;decide,λ_=>⟨k,0,rfl,hB.lt,C,?_⟩⟩;simp only[Shape.rz,Shape.tO,and_true];refine⟨A,u o n c,λj E=> ?_,hs⟩;have I:j<4:=E;rw[hB.cell];have:j=0\/j=1\/j=2\/j=3:=K;rcases this with rfl|rfl|rfl|rfl<;>rfl
def a4n(D:Nat)(s:An)(p l:Nat)(hp:p<s.size)(hl:1<=l)(b:Ax)(hb:s[p]=b):rd (D+1) (nW s p) l=
  if b=117 then(num 64 (nW s (p+1))).bind λq=>if q.1 % 8=0 then U (.node ⟨1,(q.1/8:Nat),0⟩ [],q.2,l - 1)else V
  else if b=98 then(num 65536 (nW s (p+1))).bind λq=>U (.node ⟨2,q.1,0⟩ [],q.2,l - 1)
  else if b=115 then(num 65536 (nW s (p+1))).bind λq=>U (.node ⟨3,q.1,0⟩ [],q.2,l - 1)
  else if b=91 then(rd D (nW s (p+1)) (l - 1)).bind λy=>match y.2.1 with
    |58::r2=>(num 1024 r2).bind λq=>match q.2 with
     |93::r4=>U (.node ⟨4,q.1,0⟩ [y.1],r4,y.2.2)
     |_=>V
    |_=>V
  else if b=123 then(if oZ 125 (nW s (p+1))then U (.node ⟨5,0,0⟩ [],nW s (p+2),l - 1)else xU (rd D) (l+1) (nW s (p+1)) (l - 1) [] 0)
  else V:=by
 rw[rT hp,hb];simp only[rd];rw[As K];split;.rfl
 split;.rfl
 split;.rfl
 split;.rfl
 split
 .cases A:oZ 125 (nW s (p+1))with
  |true=>
   obtain⟨E,C⟩:=rA K A;rw[C];rfl
  |false=>
   split;.rename_i r e;exact(uh A e).elim
   .simp
 .rfl
def a7g(D:Nat)(s:An)(p l:Nat)(hp:p<=s.size)(h:l=0\/p=s.size):rd (D+1) (nW s p) l=V:=by
 simp only[rd];split;.rfl
 .rcases h with h|h
  .omega
  .rw[sV K]
def NH{p:Prop}(h:p:=by
 refine jO (v:=nJ #[nI #[Y X 0,Y X 0,u V 0 0,Y X 0],nH O]) (by simp[kF,Tryz.results171,go_sem,e0,e1,e2,e3]) rfl ?_;rw[<-HP.out];exact hpost):p:=h
def a4o(b:Nat)(s:An)(hs:s.size<=jN):∀(D dep p l:Nat)(w:M),dep+D=9->p<=s.size->l<=64->ui w b s p l->
  jG jy 171 #[nG (U (Z b 0 V)),Y X (dep:Int)] w (uF (rd D (nW s p) l) b s w):=by
 intro D;induction D with
 |zero=>
  intro dep p l w hd hp hl hb;have fV:At (8<(dep:Int))=R:=nY;have cZ:=H (Cb.start hb hp hl);have dI:jI (rd 0 (nW s p) l=V):=H rfl;obtain⟨g,hg⟩:=og w.heap.size;rw[hg]at cZ;have dN:=H hd;obtain⟨ar,dJ⟩:=og (rd 0 (nW s p) l);rw[dJ]at dI|-;obtain⟨fZ,df⟩:=og (uF ar b s w);have HP:=H df;rw[df];clear hb hd dJ df;go_in;go_upto_region 1 with fail;generalize (w.alloc (nL #[nG (U (Z b 0 V))] 206)).alloc (nL #[Y X 0,Y X 0,u V 0 0,Y X 0] TT)=w1 at*;have an:=H (cZ _ rfl);obtain⟨⟨au,r0⟩,⟨av,r1⟩,⟨ax,r2⟩,⟨ay,r3⟩,az,aA,y2,aB⟩:=an.r0;go_quiet (fail);go_wp2_with fail;rw[oP];obtain⟨e0,e1,e2,e3,hpost⟩:=(an.drewN nq).fin (A:=Y X 0) (B:=Y X 0) (C:=u V 0 0) (D:=Y X 0) ⟨0,0,0⟩ V 0 0 O (λh=>by cases h) (λ_=>dI.out) rfl rfl rfl rfl;exact NH
 |succ D gB=>
  intro dep p l w hd hp hl hb;have fV:At (8<(dep:Int))=O:=nY;have cZ:=H (Cb.start hb hp hl);obtain⟨g,hg⟩:=og w.heap.size;rw[hg]at cZ;have dN:=H hd;have dh:dep<=8:=K;have eP:=H gB;have bK:=H hs;obtain⟨ar,dJ⟩:=og (rd (D+1) (nW s p) l);have dI:=H dJ;have dw:=H (a7g D s p l hp);rw[dJ];obtain⟨fZ,df⟩:=og (uF ar b s w);have HP:=H df;rw[df];have fu:s.size<=9223372036854775807:=by unfold jN at hs;omega
  clear hb hd dJ df gB hs;by_cases bL:l=0\/p=s.size
  .have dx:jI (ar=V):=H (by rw[<-dI.out];exact dw bL)
   have e1:((l:Int)==0)=At (l=0):=by rw[Bool.eq_iff_iff];simp
   have e2:((p:Int)==s.size)=At (p=s.size):=by rw[Bool.eq_iff_iff];simp;omega
   have eQ:(((l:Int)==0)=R)\/(((l:Int)==0)=O/\((p:Int)==s.size)=R):=by
    rcases bL with h|h
    .exact .inl (by rw[e1];simp[h])
    .by_cases h0:l=0
     .exact .inl (by rw[e1];simp[h0])
     .exact .inr ⟨by rw[e1];simp[h0],by rw[e2];simp[h]⟩
   clear bL dw e1 e2;go_in;go_upto_region 1 with fail;generalize (w.alloc (nL #[nG (U (Z b 0 V))] 206)).alloc (nL #[Y X 0,Y X 0,u V 0 0,Y X 0] TT)=w1 at*;have an:=H (cZ _ rfl);obtain⟨⟨au,r0⟩,⟨av,r1⟩,⟨ax,r2⟩,⟨ay,r3⟩,az,aA,y2,aB⟩:=an.r0;have b0:=an.box;obtain⟨c0,c1,c2⟩:=an.rd.a3;rcases eQ with gm|⟨gm,gD⟩
   all_goals
    go_quiet (fail);go_wp2_with fail;rw[oP];obtain⟨e0,e1,e2,e3,hpost⟩:=(an.drewN nq).fin (A:=Y X 0) (B:=Y X 0) (C:=u V 0 0) (D:=Y X 0) ⟨0,0,0⟩ V 0 0 O (λh=>by cases h) (λ_=>dx.out) rfl rfl rfl rfl;refine jO (v:=nJ #[nI #[Y X 0,Y X 0,u V 0 0,Y X 0],nH O]) (by simp[kF,Tryz.results171,go_sem,e0,e1,e2,e3]) rfl ?_;rw[<-HP.out];exact hpost
  .have dE:1<=l:=K
   have fw:p<s.size:=K;have gm:((l:Int)==0)=O:=nY;have gD:((p:Int)==s.size)=O:=nY;have dF:=H (a4n D s p l fw dE s[p] rfl);clear bL dw;go_in;go_upto_region 1 with fail;generalize (w.alloc (nL #[nG (U (Z b 0 V))] 206)).alloc (nL #[Y X 0,Y X 0,u V 0 0,Y X 0] TT)=w1 at*;have an:=H (cZ _ rfl);have b0:=an.box;obtain⟨c0,c1,c2⟩:=an.rd.a3;have f2:=nU.free an.rd 2;clear cZ;go_quiet (fail);go_upto_region 4 with fail;refine uj (λW=>Cb w b g s p (l - 1) W) ((an.drewN _).less dE) ?_;intro w2 fA;have dO:=H fA;clear an b0 c0 c1 c2 f2 fA;have b0:=dO.box;obtain⟨c0,c1⟩:=dO.rd.a2;have f1:=nU.free dO.rd 1;go_quiet (fail);go_upto_region 7 with fail;refine uj (λW=>Cb w b g s (p+1) (l - 1) W) ((dO.drewN _).next fw) ?_;intro w3 fB;have af:=H fB;obtain⟨q,aJ⟩:=og (p+1);obtain⟨m,eT⟩:=og (l - 1);have gp:=H aJ;have gq:=H eT;have dP:m<=63:=K;have aU:q<=s.size:=K;rw[aJ,eT]at af;have I:=H (dI.symm.trans dF);rw[aJ,eT]at I;clear dO b0 c0 c1 f1 fB aJ eT dF dI gm gD;have b0:=af.box;obtain⟨⟨au,r0⟩,⟨av,r1⟩,⟨ax,r2⟩,⟨ay,r3⟩,az,aA,y2,aB⟩:=af.r0;have hk:jI (∀c:Ax,s[p]≠c->((s[p].toNat:Int)==(c.toNat:Int))=O):=H λc h=>by
    rw[beq_eq_false_iff_ne];intro iI;exact h (lX.1 K)
   by_cases aO:s[p]=117
   .have dK:((s[p].toNat:Int)==117)=R:=by rw[aO];rfl
    have aa:=H I.out;rw[AC aO]at aa;have aV:jI (jG jy 213 #[Y X 1,Y X 64,nG (U (Z g 0 V))] w3 (zz 1 b s q m 64 w3)):=H (Ew 1 b g s q m 64 w3 bK aU nT af.rd af.box);clear aO I hk;go_wp2_with fail;refine(aV).mono ?_;rintro e w4 ⟨n,ok,ag,rfl,ah,ai,aj,fC,hok,ae⟩;have aG:=H (af.sub ah ai aj K);have J:=H (jF hok ae);have bB:=H (aG.alloc #[Y X 1,Y X (n:Int),u V 0 0,Y X 0] TT);clear ah ai hok ae aV af b0 au r0 av r1 ax r2 ay r3 az aA y2 aB;go_upto_region 10 with fail;generalize w4.alloc (nL #[Y X 1,Y X (n:Int),u V 0 0,Y X 0] TT)=w5 at*;obtain⟨bC,aF,_⟩:=bB.out _ rfl;have aC:=H bC;have bD:=H aF;obtain⟨⟨au,r0⟩,⟨av,r1⟩,⟨ax,r2⟩,⟨ay,r3⟩,az,aA,y2,aB⟩:=aC.r0;have dz:=aF.c0;have bM:=aF.c1;have dA:=aF.c2;have dB:=aF.c3;have gF:=aF.free 1;have aW:g+2<=w4.heap.size:=aG.hg;clear bC aF bB;cases ok with
    |true=>
     go_upto_region 12 with fail;refine uj (λW=>Cb w b g s ag m W/\nU W w4.heap.size #[Y X 1,Y X ((n/8:Nat):Int),u V 0 0,Y X 0] TT) ⟨aC.far aW _ _,by simpa using bD.set 1 (Y X ((n/8:Nat):Int))⟩ ?_;rintro bN ⟨bT,bU⟩;have aM:=H bT;clear dz bM dA dB gF au r0 av r1 ax r2 ay r3 az aA y2 aB;obtain⟨⟨au,r0⟩,⟨av,r1⟩,⟨ax,r2⟩,⟨ay,r3⟩,az,aA,y2,aB⟩:=aM.r0;obtain⟨dz,bM,dA,dB⟩:=bU.a4;obtain⟨nd,aX⟩:=og (n/8);rw[aX]at bM;have fD:=H aX;have gu:nd<=64:=K;clear bT bU aX;go_wp2_with fail;have aK:((n:Int) % 8==0)=R->∃sub,ar=U (.node ⟨1,(nd:Int),0⟩ sub,nW s ag,m)/\TL.wf ⟨1,(nd:Int),0⟩/\oD.om bN (λk=>g+2<=k) (u V 0 0) sub:=λh=>by
      have aH:=J.1 (by trivial);refine⟨[],?_,LQ K,Ey _ _ _⟩;rw[aa.out,aH,kr,AC (by simp at h;omega),fD.out]
     have E:((n:Int) % 8==0)=O->ar=V:=λh=>by
      have aH:=J.1 (by trivial);rw[aa.out,aH,kr,As (by simp at h;omega)]
     rw[oP];obtain⟨e0,e1,e2,e3,hpost⟩:=aM.fin (A:=Y X 1) (B:=Y X (nd:Int)) (C:=u V 0 0) (D:=Y X 0) ⟨1,(nd:Int),0⟩ V 0 0 ((n:Int) % 8==0) aK E rfl rfl rfl rfl;refine jO (v:=nJ #[nI #[Y X 1,Y X (nd:Int),u V 0 0,Y X 0],nH ((n:Int) % 8==0)]) (by simp[kF,Tryz.results171,go_sem,e0,e1,e2,e3]) rfl ?_;rw[<-HP.out];exact hpost
    |false=>
     go_upto_region 12 with fail;refine uj (λW=>Cb w b g s ag m W/\nU W w4.heap.size #[Y X 1,Y X ((n/8:Nat):Int),u V 0 0,Y X 0] TT) ⟨aC.far aW _ _,by simpa using bD.set 1 (Y X ((n/8:Nat):Int))⟩ ?_;rintro bN ⟨bT,bU⟩;have aM:=H bT;clear dz bM dA dB gF au r0 av r1 ax r2 ay r3 az aA y2 aB;obtain⟨⟨au,r0⟩,⟨av,r1⟩,⟨ax,r2⟩,⟨ay,r3⟩,az,aA,y2,aB⟩:=aM.r0;obtain⟨dz,bM,dA,dB⟩:=bU.a4;obtain⟨nd,aX⟩:=og (n/8);rw[aX]at bM;have fD:=H aX;have gu:nd<=64:=K;clear bT bU aX;go_wp2_with fail;have E:ar=V:=by rw[aa.out,J.2 (by trivial)];rfl
     rw[oP];obtain⟨e0,e1,e2,e3,hpost⟩:=aM.fin (A:=Y X 1) (B:=Y X (nd:Int)) (C:=u V 0 0) (D:=Y X 0) ⟨1,(nd:Int),0⟩ V 0 0 O (λh=>by cases h) (λ_=>E) rfl rfl rfl rfl;refine jO (v:=nJ #[nI #[Y X 1,Y X (nd:Int),u V 0 0,Y X 0],nH O]) (by simp[kF,Tryz.results171,go_sem,e0,e1,e2,e3]) rfl ?_;rw[<-HP.out];exact hpost
   have dQ:((s[p].toNat:Int)==117)=O:=hk.out 117 aO;have bO:=H I.out;rw[As aO]at bO;clear aO I;have I:=bO;clear bO;by_cases bE:s[p]=98
   .have dK:((s[p].toNat:Int)==98)=R:=by rw[bE];rfl
    have aa:=H I.out;rw[AC bE]at aa;have aV:jI (jG jy 213 #[Y X 2,Y X 65536,nG (U (Z g 0 V))] w3 (zz 2 b s q m 65536 w3)):=H (Ew 2 b g s q m 65536 w3 bK aU nT af.rd af.box);clear bE I hk;go_wp2_with fail;refine(aV).mono ?_;rintro e w4 ⟨n,ok,ag,rfl,ah,ai,aj,fC,hok,ae⟩;have aG:=H (af.sub ah ai aj K);have J:=H (jF hok ae);clear ah ai hok ae aV af b0 au r0 av r1 ax r2 ay r3 az aA y2 aB;obtain⟨⟨au,r0⟩,⟨av,r1⟩,⟨ax,r2⟩,⟨ay,r3⟩,az,aA,y2,aB⟩:=aG.r0;go_wp2_with fail;have aK:ok=R->∃sub,ar=U (.node ⟨2,(n:Int),0⟩ sub,nW s ag,m)/\TL.wf ⟨2,(n:Int),0⟩/\oD.om w4 (λk=>g+2<=k) (u V 0 0) sub:=λh=>by
     refine⟨[],?_,LQ K,Ey _ _ _⟩;rw[aa.out,J.1 h];rfl
    have E:ok=O->ar=V:=λh=>by rw[aa.out,J.2 h];rfl
    rw[oP];obtain⟨e0,e1,e2,e3,hpost⟩:=aG.fin (A:=Y X 2) (B:=Y X (n:Int)) (C:=u V 0 0) (D:=Y X 0) ⟨2,(n:Int),0⟩ V 0 0 ok aK E rfl rfl rfl rfl;refine jO (v:=nJ #[nI #[Y X 2,Y X (n:Int),u V 0 0,Y X 0],nH ok]) (by simp[kF,Tryz.results171,go_sem,e0,e1,e2,e3]) rfl ?_;rw[<-HP.out];exact hpost
   have fE:((s[p].toNat:Int)==98)=O:=hk.out 98 bE;have aY:=H I.out;rw[As bE]at aY;clear bE I;have I:=aY;clear aY;by_cases aP:s[p]=115
   .have dK:((s[p].toNat:Int)==115)=R:=by rw[aP];rfl
    have aa:=H I.out;rw[AC aP]at aa;have aV:jI (jG jy 213 #[Y X 3,Y X 65536,nG (U (Z g 0 V))] w3 (zz 3 b s q m 65536 w3)):=H (Ew 3 b g s q m 65536 w3 bK aU nT af.rd af.box);clear aP I hk;go_wp2_with fail;refine(aV).mono ?_;rintro e w4 ⟨n,ok,ag,rfl,ah,ai,aj,fC,hok,ae⟩;have aG:=H (af.sub ah ai aj K);have J:=H (jF hok ae);clear ah ai hok ae aV af b0 au r0 av r1 ax r2 ay r3 az aA y2 aB;obtain⟨⟨au,r0⟩,⟨av,r1⟩,⟨ax,r2⟩,⟨ay,r3⟩,az,aA,y2,aB⟩:=aG.r0;go_wp2_with fail;have aK:ok=R->∃sub,ar=U (.node ⟨3,(n:Int),0⟩ sub,nW s ag,m)/\TL.wf ⟨3,(n:Int),0⟩/\oD.om w4 (λk=>g+2<=k) (u V 0 0) sub:=λh=>by
     refine⟨[],?_,LQ K,Ey _ _ _⟩;rw[aa.out,J.1 h];rfl
    have E:ok=O->ar=V:=λh=>by rw[aa.out,J.2 h];rfl
    rw[oP];obtain⟨e0,e1,e2,e3,hpost⟩:=aG.fin (A:=Y X 3) (B:=Y X (n:Int)) (C:=u V 0 0) (D:=Y X 0) ⟨3,(n:Int),0⟩ V 0 0 ok aK E rfl rfl rfl rfl;refine jO (v:=nJ #[nI #[Y X 3,Y X (n:Int),u V 0 0,Y X 0],nH ok]) (by simp[kF,Tryz.results171,go_sem,e0,e1,e2,e3]) rfl ?_;rw[<-HP.out];exact hpost
   have dR:((s[p].toNat:Int)==115)=O:=hk.out 115 aP;have bP:=H I.out;rw[As aP]at bP;clear aP I;have I:=bP;clear bP;by_cases bF:s[p]=91
   .have dK:((s[p].toNat:Int)==91)=R:=by rw[bF];rfl
    have aa:=H I.out;rw[AC bF]at aa;have gG:jI (jG jy 171 #[nG (U (Z b 0 V)),Y X ((dep:Int)+1)] w3 (uF (rd D (nW s q) m) b s w3)):=H (eP (dep+1) q m w3 (by have:=dN.out;omega) aU K af.rd);clear bF I hk;have bV:=H af.hg;go_wp2_with fail;refine(gG).mono ?_;rintro e w4 ⟨a,o,n,c,ok,ag,aD,rfl,ah,ai,aj,aN,hok,ae⟩;have aG:=H (af.sub ah ai aj aN);have J:=H (jF hok ae);have bB:=H (aG.alloc #[Y X a.kind,Y X a.size,u o n c,Y X a.tail] TT);clear ah ai hok ae gG af b0 au r0 av r1 ax r2 ay r3 az aA y2 aB;go_upto_region 19 with fail;generalize w4.alloc (nL #[Y X a.kind,Y X a.size,u o n c,Y X a.tail] TT)=w5 at*;obtain⟨bC,aF,bQ⟩:=bB.out _ rfl;have aC:=H bC;have bD:=H aF;have b0:=aC.box;have aW:g+2<=w4.heap.size:=aG.hg;cases ok with
    |false=>
     clear bC aF bB bQ;obtain⟨⟨au,r0⟩,⟨av,r1⟩,⟨ax,r2⟩,⟨ay,r3⟩,az,aA,y2,aB⟩:=aC.r0;have E:ar=V:=by rw[aa.out,J.2 (by trivial)];rfl
     have dx:=H E;clear E;go_wp2_with fail;rw[oP];obtain⟨e0,e1,e2,e3,hpost⟩:=aC.fin (A:=Y X 0) (B:=Y X 0) (C:=u V 0 0) (D:=Y X 0) ⟨0,0,0⟩ V 0 0 O (λh=>by cases h) (λ_=>dx.out) rfl rfl rfl rfl;exact NH
    |true=>
     have dS:jI (∃sub,rd D (nW s q) m=U (.node a sub,nW s ag,aD)/\TL.wf a/\oD.om w5 (λk=>g+2<=k/\k<w4.heap.size) (u o n c) sub):=H (by
      obtain⟨sub,aH,bW,bR⟩:=J.1 (by trivial);exact⟨sub,aH,bW,bR.keep bQ.size (λk hk aJ=>⟨jM bV aJ,hk⟩) λk hk aJ=>bQ.block k hk⟩)
     clear bC aF bB bQ J;obtain⟨sub,aR,dU,dG⟩:=dS.out;have aR:=H aR;have dV:=H dU;have dW:=H dG;clear dS dU dG
     have dL:jI (jG jy 215 #[nG (U (Z b 0 V)),Y .u8 58] w5 λe w'=>e=nK (nH (oZ 58 (nW s ag)))/\pX b w5 w'/\ui w' b s (if oZ 58 (nW s ag)then ag+1 else ag) aD):=
      H (uY b s ag aD 58 w5 bK aj aC.rd)
     have bG:=H (λh=>rA (c:=58) (s:=s) (p:=ag) aj h);cases bH:oZ 58 (nW s ag)with
     |false=>
      rw[bH]at dL;have aS:=H bH;clear bH;have E:ar=V:=by
       rw[aa.out,aR.out];simp only[kr];split;.rename_i r2 e2;exact(uh aS e2).elim
       .rfl
      have dx:=H E;clear E;go_wp2_with fail;refine(dL).mono ?_;rintro e bN ⟨rfl,aT,bX⟩;have aM:=H (aC.sub aT (show ui bN b s ag aD from by simpa using bX) aj aN);clear aT bX dL b0;obtain⟨⟨au,r0⟩,⟨av,r1⟩,⟨ax,r2⟩,⟨ay,r3⟩,az,aA,y2,aB⟩:=aM.r0;go_wp2_with fail;rw[oP];obtain⟨e0,e1,e2,e3,hpost⟩:=aM.fin (A:=Y X 0) (B:=Y X 0) (C:=u V 0 0) (D:=Y X 0) ⟨0,0,0⟩ V 0 0 O (λh=>by cases h) (λ_=>dx.out) rfl rfl rfl rfl;exact NH
     |true=>
      rw[bH]at dL;have aS:=H (bG bH);clear bH bG;go_wp2_with fail;refine(dL).mono ?_;rintro e bN ⟨rfl,aT,bX⟩;have dH:ag+1<=s.size:=by have:=aS.1;omega
      have aM:=H (aC.sub aT (show ui bN b s (ag+1) aD from by simpa using bX) dH aN);have dX:=H (aT.blk bD (by have:=aC.hb;omega));have dY:=H (Shape.om.keep dW aT.size (λ_ _ h=>h) λk hk aJ=>aT.block k hk (by simpa using by have:=aC.hb;omega));have aV:jI (jG jy 213 #[Y X 4,Y X 1024,nG (U (Z g 0 V))] bN (zz 4 b s (ag+1) aD 1024 bN)):=H (Ew 4 b g s (ag+1) aD 1024 bN bK dH nT aM.rd aM.box);clear aT bX dL b0;go_wp2_with fail;refine(aV).mono ?_;rintro e aI ⟨ak,gH,aZ,rfl,bY,fF,bZ,fG,hok,ae⟩;have eU:=H (aM.sub bY fF bZ aN);have J:=H (jF hok ae);have cz:=H (bY.blk dX (by have:=aC.hb;omega));have dZ:=H (Shape.om.keep dY bY.size (λ_ _ h=>h) λk hk aJ=>bY.block k hk (by simpa using by have:=aC.hb;omega));have fH:=H (eU.alloc #[Y X 4,Y X (ak:Int),u V 0 0,Y X 0] TT);clear bY fF hok ae aV;go_upto_region 22 with fail;generalize aI.alloc (nL #[Y X 4,Y X (ak:Int),u V 0 0,Y X 0] TT)=N at*;obtain⟨fI,cK,bS⟩:=fH.out _ rfl;have fJ:=H (Below.blk bS cz cz.lt);have fK:=H (Shape.om.keep dZ bS.size (λ_ _ h=>h) λk hk _=>bS.block k hk);have fM:=H cK;have gI:=H fI;have ed:aI.heap.size<N.heap.size:=cK.lt;have ek:w4.heap.size<aI.heap.size:=cz.lt;obtain⟨dz,bM,dA,dB⟩:=fJ.a4;have iA:=cK.c2;have iB:=cK.free 2;have eu:g+2<=aI.heap.size:=eU.hg
      have fO:jI (∀W,(N.setCell (Z aI.heap.size 2 V) (u (U (Z N.heap.size 0 V)) 1 1)).alloc (nL #[Y X a.kind,Y X a.size,u o n c,Y X a.tail] TT)=W->
        (Cb w b g s aZ aD W/\nU W aI.heap.size #[Y X 4,Y X (ak:Int),u (U (Z N.heap.size 0 V)) 1 1,Y X 0] TT/\oD.om W (λk=>g+2<=k) (u (U (Z N.heap.size 0 V)) 1 1) [.node a sub])):=H λW h=>by
       have iC:=gI.far eu 2 (u (U (Z N.heap.size 0 V)) 1 1);have gJ:nU (N.setCell (Z aI.heap.size 2 V) (u (U (Z N.heap.size 0 V)) 1 1)) aI.heap.size #[Y X 4,Y X (ak:Int),u (U (Z N.heap.size 0 V)) 1 1,Y X 0] TT:=by simpa using fM.set 2 (u (U (Z N.heap.size 0 V)) 1 1)
       have iD:=Shape.om.keep (w':=N.setCell (Z aI.heap.size 2 V) (u (U (Z N.heap.size 0 V)) 1 1)) fK (by simp[j5]) (λ_ _ h=>h) λk hk aJ=>jW _ _ _ _ nY
       have sz:(N.setCell (Z aI.heap.size 2 V) (u (U (Z N.heap.size 0 V)) 1 1)).heap.size=N.heap.size:=by simp[j5]
       obtain⟨aH,bW,bR⟩:=iC.alloc _ _ W h;rw[sz]at bW;have iE:=iD.keep (Q':=λk=>g+2<=k) bR.size (λk _ aJ=>aJ.1) λk hk _=>bR.block k hk
       exact⟨aH,Below.blk bR gJ gJ.lt,Qn bW dV iE K⟩
      clear fI cK bS fH;go_upto_region 23 with fail;refine uj (λW=>Cb w b g s aZ aD W/\nU W aI.heap.size #[Y X 4,Y X (ak:Int),u (U (Z N.heap.size 0 V)) 1 1,Y X 0] TT/\oD.om W (λk=>g+2<=k) (u (U (Z N.heap.size 0 V)) 1 1) [.node a sub]) (fO _ rfl) ?_;rintro bg ⟨fP,fQ,fT⟩;have eX:=H fP;have fU:=H fQ;have gK:=H fT;clear dz bM dA dB iA iB fO fP fQ fT gI fJ fK fM;have b0:=eX.box;obtain⟨⟨au,r0⟩,⟨av,r1⟩,⟨ax,r2⟩,⟨ay,r3⟩,az,aA,y2,aB⟩:=eX.r0;obtain⟨dz,bM,dA,dB⟩:=fU.a4;cases gH with
      |false=>
       have E:ar=V:=by
        rw[aa.out,aR.out];simp only[kr,aS.2,J.2 rfl];rfl
       have dx:=H E;clear E;go_big_region;go_wp2_with fail;rw[oP,show∀A B C D,(qM bg (g+1) A B C D).drew=qM (bg.drewN 1) (g+1) A B C D from λ_ _ _ _=>rfl];obtain⟨e0,e1,e2,e3,hpost⟩:=(eX.drewN 1).fin (A:=Y X 4) (B:=Y X (ak:Int)) (C:=u (U (Z N.heap.size 0 V)) 1 1) (D:=Y X 0) ⟨4,(ak:Int),0⟩ (U (Z N.heap.size 0 V)) 1 1 O (λh=>by cases h) (λ_=>dx.out) rfl rfl rfl rfl;refine jO (v:=nJ #[nI #[Y X 4,Y X (ak:Int),u (U (Z N.heap.size 0 V)) 1 1,Y X 0],nH O]) (by simp[kF,Tryz.results171,go_sem,e0,e1,e2,e3]) rfl ?_;rw[<-HP.out];exact hpost
      |true=>
       have eY:jI (Cb w b g s aZ aD bg.drew):=H (by have:=eX.drewN 1;exact this);have eB:jI (nU bg.drew aI.heap.size #[Y X 4,Y X (ak:Int),u (U (Z N.heap.size 0 V)) 1 1,Y X 0] TT):=H fU.out;have dM:=H (uY b s aZ aD 93 bg.drew bK bZ eY.rd);have bG:=H (λh=>rA (c:=93) (s:=s) (p:=aZ) bZ h)
       have gL:jI (∀W eZ,pX b bg.drew W->ui W b s eZ aD->eZ<=s.size->(W.cell? (Z aI.heap.size 0 V)=U (Y X 4)/\W.cell? (Z aI.heap.size 1 V)=U (Y X (ak:Int))/\W.cell? (Z aI.heap.size 2 V)=U (u (U (Z N.heap.size 0 V)) 1 1)/\W.cell? (Z aI.heap.size 3 V)=U (Y X 0))/\
         Cb w b g s eZ aD W/\oD.om W (λk=>g+2<=k) (u (U (Z N.heap.size 0 V)) 1 1) [.node a sub]):=H λW eZ fq iF gM=>by
        have aH:=fq.blk eB (by have:=aC.hb;omega);exact⟨⟨aH.cell 0,aH.cell 1,aH.cell 2,aH.cell 3⟩,eY.sub fq iF gM aN,Shape.om.keep (gK.keep (w':=bg.drew) (jB _) (λ_ _ h=>h) λ_ _ _=>rfl) fq.size (λ_ _ h=>h) λk hk aJ=>fq.block k hk (by have:=aC.hb;simp;omega)⟩
       cases bI:oZ 93 (nW s aZ)with
       |true=>
        rw[bI]at dM;have bJ:=H (bG bI);have eD:jI (jG jy 215 #[nG (U (Z b 0 V)),Y .u8 93] bg.drew λe w'=>e=nK (nH R)/\pX b bg.drew w'/\ui w' b s (aZ+1) aD):=H (dM.mono λe w' h=>⟨h.1,h.2.1,by simpa using h.2.2⟩);clear bI dM;have eF:aZ+1<=s.size:=by have:=bJ.1;omega
        have dD:jI (ar=U (.node ⟨4,(ak:Int),0⟩ [.node a sub],nW s (aZ+1),aD)):=H (by
         rw[aa.out,aR.out];simp only[kr,aS.2,J.1 rfl,bJ.2])
        have gy:ak<=65536:=K;clear eP bK aa aR dV dW dY dZ bD dX cz aG aC aM eU gp gq aS bJ J bG eY eB dh fu dE dP aU aj aN dH bZ fG aW ek ed eu bV hp hl dN fV dK dQ fE dR;go_region_with (refine(eD).mono ?_;rintro e eG ⟨rfl,bq,bu⟩;obtain⟨⟨gN,gP,gQ,gT⟩,aL,bz⟩:=gL.out eG _ bq bu eF;have eH:=H aL;have eO:=H bz;obtain⟨⟨gU,gV⟩,⟨gW,gX⟩,⟨gY,gZ⟩,⟨ib,ig⟩,ik,iq,iw,iy⟩:=aL.r0;clear bq bu aL bz)
        all_goals
         go_wp2_with fail;rw[oP];obtain⟨e0,e1,e2,e3,hpost⟩:=eH.fin (A:=Y X 4) (B:=Y X (ak:Int)) (C:=u (U (Z N.heap.size 0 V)) 1 1) (D:=Y X 0) ⟨4,(ak:Int),0⟩ (U (Z N.heap.size 0 V)) 1 1 R (λ_=>⟨_,dD.out,LQ K,eO.out⟩) (λh=>by cases h) rfl rfl rfl rfl;refine jO (v:=nJ #[nI #[Y X 4,Y X (ak:Int),u (U (Z N.heap.size 0 V)) 1 1,Y X 0],nH R]) (by simp[kF,Tryz.results171,go_sem,mR,e0,e1,e2,e3]) rfl ?_;rw[<-HP.out];exact hpost
       |false=>
        rw[bI]at dM;have bJ:=H bI;have eD:jI (jG jy 215 #[nG (U (Z b 0 V)),Y .u8 93] bg.drew λe w'=>e=nK (nH O)/\pX b bg.drew w'/\ui w' b s (aZ) aD):=H (dM.mono λe w' h=>⟨h.1,h.2.1,by simpa using h.2.2⟩);clear bI dM;have eF:aZ<=s.size:=K;have dD:jI (ar=V):=H (by
         rw[aa.out,aR.out];simp only[kr,aS.2,J.1 rfl];split;.rename_i r4 e4;exact(uh bJ e4).elim
         .rfl)
        have gy:ak<=65536:=K;clear eP bK aa aR dV dW dY dZ bD dX cz aG aC aM eU gp gq aS bJ J bG eY eB dh fu dE dP aU aj aN dH bZ fG aW ek ed eu bV hp hl dN fV dK dQ fE dR;go_region_with (refine(eD).mono ?_;rintro e eG ⟨rfl,bq,bu⟩;obtain⟨⟨gN,gP,gQ,gT⟩,aL,bz⟩:=gL.out eG _ bq bu eF;have eH:=H aL;have eO:=H bz;obtain⟨⟨gU,gV⟩,⟨gW,gX⟩,⟨gY,gZ⟩,⟨ib,ig⟩,ik,iq,iw,iy⟩:=aL.r0;clear bq bu aL bz)
        all_goals
         go_wp2_with fail;rw[oP];obtain⟨e0,e1,e2,e3,hpost⟩:=eH.fin (A:=Y X 4) (B:=Y X (ak:Int)) (C:=u (U (Z N.heap.size 0 V)) 1 1) (D:=Y X 0) ⟨4,(ak:Int),0⟩ (U (Z N.heap.size 0 V)) 1 1 O (λh=>by cases h) (λ_=>dD.out) rfl rfl rfl rfl;refine jO (v:=nJ #[nI #[Y X 4,Y X (ak:Int),u (U (Z N.heap.size 0 V)) 1 1,Y X 0],nH O]) (by simp[kF,Tryz.results171,go_sem,mR,e0,e1,e2,e3]) rfl ?_;rw[<-HP.out];exact hpost
   have iH:((s[p].toNat:Int)==91)=O:=hk.out 91 bF;have bA:=H I.out;rw[As bF]at bA;clear bF I;have I:=bA;clear bA;by_cases aQ:s[p]=123
   .have dK:((s[p].toNat:Int)==123)=R:=by rw[aQ];rfl
    have aa:=H I.out;rw[AC aQ,show p+2=q+1 by have:=gp.out;omega,show l+1=m+2 by have:=gq.out;omega]at aa;have gz:=H (Xr D dep b s bK dh (λp l w aH bW bR=>eP.out (dep+1) p l w (by have:=dN.out;omega) aH bW bR) q m w3 aU dP af.rd);rw[<-aa.out]at gz;have bV:=H af.hg;clear aQ I hk;go_wp2_with fail;refine(gz).mono ?_;rintro e w4 ⟨a,o,n,c,ok,ag,aD,rfl,ah,ai,aj,aN,hok,ae⟩;have aG:=H (af.sub ah ai aj aN);have J:=H (jF hok ae);clear ah ai hok ae gz af b0 au r0 av r1 ax r2 ay r3 az aA y2 aB;obtain⟨⟨au,r0⟩,⟨av,r1⟩,⟨ax,r2⟩,⟨ay,r3⟩,az,aA,y2,aB⟩:=aG.r0;go_wp2_with fail;have aK:ok=R->∃sub,ar=U (.node a sub,nW s ag,aD)/\TL.wf a/\oD.om w4 (λk=>g+2<=k) (u o n c) sub:=λh=>by
     obtain⟨sub,aH,bW,bR⟩:=J.1 h;exact⟨sub,aH,bW,bR.keep (jB _) (λk _ aJ=>jM bV aJ) λ_ _ _=>rfl⟩
    rw[oP];obtain⟨e0,e1,e2,e3,hpost⟩:=aG.fin (A:=Y X a.kind) (B:=Y X a.size) (C:=u o n c) (D:=Y X a.tail) a o n c ok aK J.2 rfl rfl rfl rfl;refine jO (v:=nJ #[nI #[Y X a.kind,Y X a.size,u o n c,Y X a.tail],nH ok]) (by simp[kF,Tryz.results171,go_sem,e0,e1,e2,e3]) rfl ?_;rw[<-HP.out];exact hpost
   .have iG:((s[p].toNat:Int)==123)=O:=hk.out 123 aQ
    have aa:=H I.out;rw[As aQ]at aa;clear aQ I hk;go_wp2_with fail;rw[oP];obtain⟨e0,e1,e2,e3,hpost⟩:=af.fin (A:=Y X 0) (B:=Y X 0) (C:=u V 0 0) (D:=Y X 0) ⟨0,0,0⟩ V 0 0 O (λh=>by cases h) (λ_=>aa.out) rfl rfl rfl rfl;exact NH
def JQ(l:List Ax)(w:M)(e:Ending)(w':M):Prop:=
 ∃(a:TL) (o:Option kW) (n c:Nat) (er:Int) (sub:List (nS TL)),e=nK (nJ #[nI #[Y X a.kind,Y X a.size,u o n c,Y X a.tail],Y X er])/\jD w.heap.size w w'/\TL.wf a/\oD.om w' (λk=>w.heap.size<=k) (u o n c) sub/\
  (yn l=U (.node a sub)/\er=0\/yn l=V/\er=3/\a=⟨0,0,0⟩/\sub=[])
def SV(s:An):nW s 0=s.data.toList:=rfl
def SX{l:List Ax}(h:rd 8 l 64=V):yn l=V:=by unfold yn;rw[h]
def SY{l r:List Ax}{n:Nat}(h:rd 8 l 64=U (x,r,n))(A:r≠[]):yn l=V:=by
 unfold yn;rw[h];cases r with
 |nil=>exact absurd rfl A
 |cons _ _=>rfl
def Xt{l:List Ax}{n:Nat}(h:rd 8 l 64=U (x,[],n)):yn l=if qc x then U x else V:=by unfold yn;rw[h]
def S9{p:Prop}(h:p:=by
 refine jO (v:=nJ #[nI #[Y X 0,Y X 0,u V 0 0,Y X 0],Y X 3]) (by simp[kF,Tryz.results121,go_sem,e0,e1,e2,e3]) rfl ?_;exact hpost):p:=h
def Xu(s:An)(w:M)(hs:s.size<=jN)(aT:qK w):
  jG jy 121 #[G s] w (JQ s.data.toList w):=by
 have aK:=aT.lt;obtain⟨g,hg⟩:=og w.heap.size
 have bq:jI (∀W,(w.alloc (nL #[Y X 0,Y X 0,u V 0 0,Y X 0] TT)).alloc (nL #[G s,Y X 0,Y X 64] 208)=W->jD g w W/\ui W (g+1) s 0 64/\
   nU W g #[Y X 0,Y X 0,u V 0 0,Y X 0] TT/\W.heap.size=g+2):=H λW h=>by
  subst h;have aL:=(jE w.heap.size w).alloc (jB _) (nL #[Y X 0,Y X 0,u V 0 0,Y X 0] TT);have aM:=nU.new w #[Y X 0,Y X 0,u V 0 0,Y X 0] TT;have ah:(w.alloc (nL #[Y X 0,Y X 0,u V 0 0,Y X 0] TT)).heap.size=g+1:=nY;rw[hg]at aL aM;generalize w.alloc (nL #[Y X 0,Y X 0,u V 0 0,Y X 0] TT)=w1 at*;have az:=(jE w1.heap.size w1).alloc (jB _) (nL #[G s,Y X 0,Y X 64] 208);have aN:=nU.new w1 #[G s,Y X 0,Y X 64] 208;rw[ah]at aN;exact⟨aL.trans (az.mono K),aN,Below.blk az aM K,nY⟩
 have bP:=H aT;have bu:1<g:=hg▸aK;obtain⟨aU,aV⟩:=og (JQ s.data.toList w);have bz:=H aV;rw[aV];clear aT aK aV;go_in;go_upto_region 2 with fail;generalize (w.alloc (nL #[Y X 0,Y X 0,u V 0 0,Y X 0] TT)).alloc (nL #[G s,Y X 0,Y X 64] 208)=w1 at*;obtain⟨aA,aO,ai,ah⟩:=bq.out _ rfl;have bA:jI (jG jy 171 #[nG (U (Z (g+1) 0 V)),Y X 1] w1 (uF (rd 8 (nW s 0) 64) (g+1) s w1)):=H (a4o (g+1) s hs 8 1 0 64 w1 rfl (ko _) (jB _) aO);have au:=H (jF aA (jF ai ah));clear bq aA aO ai ah;go_wp2_with fail;refine(bA).mono ?_;rintro e w2 ⟨a,o,n,c,ok,av,l2,rfl,aj,aP,bB,bT,hok,aQ⟩;have bQ:g+2<=w2.heap.size:=by have:=aj.size;have:=au.2.2;omega
 have aB:jI (jD g w w2/\ui w2 (g+1) s av l2/\nU w2 g #[Y X 0,Y X 0,u V 0 0,Y X 0] TT):=H ⟨aj.below au.1 K (by have:=au.2.2;omega),aP,aj.blk au.2.1 K⟩;have af:=H (jF hok aQ);have aR:jI (∀W,w2.alloc (nL #[Y X a.kind,Y X a.size,u o n c,Y X a.tail] TT)=W->jD w2.heap.size w2 W/\nU W w2.heap.size #[Y X a.kind,Y X a.size,u o n c,Y X a.tail] TT/\W.heap.size=w2.heap.size+1):=H λW h=>by
  subst h;exact⟨(jE w2.heap.size w2).alloc (jB _) _,nU.new w2 _ _,nX⟩
 have bC:=H au.2.2;clear aj aP hok aQ bA au;go_upto_region 3 with fail;generalize w2.alloc (nL #[Y X a.kind,Y X a.size,u o n c,Y X a.tail] TT)=w3 at*;obtain⟨E,aS,bD⟩:=aR.out _ rfl
 have C:jI (jD g w w3/\ui w3 (g+1) s av l2/\nU w3 g #[Y X 0,Y X 0,u V 0 0,Y X 0] TT/\nU w3 w2.heap.size #[Y X a.kind,Y X a.size,u o n c,Y X a.tail] TT/\jD w2.heap.size w2 w3):=
  H ⟨aB.1.trans (E.mono K),ui.below aB.2.1 E,Below.blk E aB.2.2 K,aS,E⟩
 have N:w2.heap.size<w3.heap.size:=K;clear aR E aS bD;obtain⟨aW,aX,aY,aZ⟩:=C.2.2.2.1.a4;obtain⟨r0,r1,r2,r3,aG,aH,y2,aI⟩:=C.2.2.1.b4;have c1:=C.2.1.c1
 have aa:jI (∀W,jD g w W->(∃cs,nU W g cs TT/\cs.size=4)->yn s.data.toList=V->(qM W g (Y X 0) (Y X 0) (u V 0 0) (Y X 0)).cell? (Z g 0 V)=U (Y X 0)/\(qM W g (Y X 0) (Y X 0) (u V 0 0) (Y X 0)).cell? (Z g 1 V)=U (Y X 0)/\
   (qM W g (Y X 0) (Y X 0) (u V 0 0) (Y X 0)).cell? (Z g 2 V)=U (u V 0 0)/\(qM W g (Y X 0) (Y X 0) (u V 0 0) (Y X 0)).cell? (Z g 3 V)=U (Y X 0)/\
   aU (nK (nJ #[nI #[Y X 0,Y X 0,u V 0 0,Y X 0],Y X 3])) (qM W g (Y X 0) (Y X 0) (u V 0 0) (Y X 0))):=H λW I hB bR=>by
  obtain⟨cs,ai,bE⟩:=hB;have ax:=xG (a:=Y X 0) (b:=Y X 0) (c:=u V 0 0) (d:=Y X 0) ai bE;refine⟨ax.cell 0,ax.cell 1,ax.cell 2,ax.cell 3,?_⟩;rw[<-bz.out];refine⟨⟨0,0,0⟩,V,0,0,3,[],rfl,?_,LQ K,Ey _ _ _,.inr ⟨bR,rfl,rfl,rfl⟩⟩;rw[hg];exact⟨I.os,I.tape,I.output,jM I.size (lZ zy.symm),λk hk=>(Ca k K).trans (I.block k hk)⟩
 cases ok with
 |false=>
  have bg:=H (SX (af.2 rfl));clear af;go_wp2_with fail;rw[oP];obtain⟨e0,e1,e2,e3,hpost⟩:=aa.out w3 C.1 ⟨_,C.2.2.1,rfl⟩ bg.out;exact S9
 |true=>
  by_cases ae:av=s.size
  .have bS:((av:Int) !=s.size)=O:=by simp[ae]
   have aC:jI (∃sub,rd 8 s.data.toList 64=U (.node a sub,[],l2)/\TL.wf a/\oD.om w3 (λk=>g+2<=k) (u o n c) sub):=H (by
    obtain⟨sub,ag,aD,ay⟩:=af.1 rfl;rw[SV,sV (s:=s) (p:=av) K]at ag;exact⟨sub,ag,aD,ay.keep C.2.2.2.2.size (λk _ hk=>by have:=bC.out;omega) λk hk _=>C.2.2.2.2.block k hk⟩)
   obtain⟨sub,ag,aD,ay⟩:=aC.out;have ak:=H (Xt ag);have bF:=H aD;have bG:=H ay;have aF:=H (Ec (.node a sub) w3 (u o n c) (ay.keep (jB _) (λ_ _ _=>trivial) λ_ _ _=>rfl) (bP.below C.1 bu));clear ag aD ay aC ae;simp only[nS.o9]at aF;cases aJ:qc (.node a sub)with
   |false=>
    rw[aJ]at aF ak;clear aJ;go_wp2_with fail;refine(aF).mono ?_;rintro e w4 ⟨rfl,A⟩;have J:=H A;have bH:=(A.cell (p:=(Z g 0 V)) (show g<w3.heap.size by omega)).trans r0;have bI:=(A.cell (p:=(Z g 1 V)) (show g<w3.heap.size by omega)).trans r1;have bJ:=(A.cell (p:=(Z g 2 V)) (show g<w3.heap.size by omega)).trans r2;have bK:=(A.cell (p:=(Z g 3 V)) (show g<w3.heap.size by omega)).trans r3;have bL:=(A.frozen (p:=(Z g 0 V)) (show g<w3.heap.size by omega)).trans aG;have bM:=(A.frozen (p:=(Z g 1 V)) (show g<w3.heap.size by omega)).trans aH;have bN:=(A.frozen (p:=(Z g 2 V)) (show g<w3.heap.size by omega)).trans y2;have bO:=(A.frozen (p:=(Z g 3 V)) (show g<w3.heap.size by omega)).trans aI;clear A r0 r1 r2 r3 aG aH y2 aI aW aX aY aZ c1;go_wp2_with fail;rw[oP];obtain⟨e0,e1,e2,e3,hpost⟩:=aa.out w4 (C.1.trans (J.mono K)) ⟨_,Below.blk J C.2.2.1 K,rfl⟩ (by rw[ak.out];rfl);exact S9
   |true=>
    rw[aJ]at aF ak;clear aJ;go_wp2_with fail;refine(aF).mono ?_;rintro e w4 ⟨rfl,A⟩;have J:=H A;have bH:=(A.cell (p:=(Z g 0 V)) (show g<w3.heap.size by omega)).trans r0;have bI:=(A.cell (p:=(Z g 1 V)) (show g<w3.heap.size by omega)).trans r1;have bJ:=(A.cell (p:=(Z g 2 V)) (show g<w3.heap.size by omega)).trans r2;have bK:=(A.cell (p:=(Z g 3 V)) (show g<w3.heap.size by omega)).trans r3;have bL:=(A.frozen (p:=(Z g 0 V)) (show g<w3.heap.size by omega)).trans aG;have bM:=(A.frozen (p:=(Z g 1 V)) (show g<w3.heap.size by omega)).trans aH;have bN:=(A.frozen (p:=(Z g 2 V)) (show g<w3.heap.size by omega)).trans y2;have bO:=(A.frozen (p:=(Z g 3 V)) (show g<w3.heap.size by omega)).trans aI;have bU:=(A.cell (p:=(Z w2.heap.size 0 V)) N).trans aW;have bV:=(A.cell (p:=(Z w2.heap.size 1 V)) N).trans aX;have bW:=(A.cell (p:=(Z w2.heap.size 2 V)) N).trans aY;have bX:=(A.cell (p:=(Z w2.heap.size 3 V)) N).trans aZ;clear A r0 r1 r2 r3 aG aH y2 aI aW aX aY aZ c1;go_wp2_with fail;rw[oP];have ax:=xG (a:=Y X a.kind) (b:=Y X a.size) (c:=u o n c) (d:=Y X a.tail) (Below.blk J C.2.2.1 K) rfl;obtain⟨e0,e1,e2,e3⟩:=ax.a4;refine jO (v:=nJ #[nI #[Y X a.kind,Y X a.size,u o n c,Y X a.tail],Y X 0]) (by simp[kF,Tryz.results121,go_sem,e0,e1,e2,e3]) rfl ?_;rw[<-bz.out];have I:jD g w w4:=C.1.trans (J.mono K);refine⟨a,o,n,c,0,sub,rfl,?_,bF.out,?_,.inl ⟨by rw[ak.out];rfl,rfl⟩⟩
    .rw[hg]
     exact⟨I.os,I.tape,I.output,jM I.size (lZ zy.symm),λk hk=>(Ca k K).trans (I.block k hk)⟩
    .exact(xE (Shape.om.below bG J) (λk hk=>by omega)).keep (jB _) (λk _ hk=>by have hk:g+2<=k:=hk;show w.heap.size<=k;omega) λ_ _ _=>rfl
  .have bS:((av:Int) !=s.size)=R:=EX
   have bg:jI (yn s.data.toList=V):=H (by
    obtain⟨sub,ag,aD,ay⟩:=af.1 rfl;exact SY ag λh=>ae (LM bB h))
   clear ae af;go_wp2_with fail;rw[oP];obtain⟨e0,e1,e2,e3,hpost⟩:=aa.out w3 C.1 ⟨_,C.2.2.1,rfl⟩ bg.out;exact S9
end
section
open Go.RowKit Go.Maps
def vH(c:oO)(rows:List Row)(id:Nat)(nm tx:An):Nat×Option Row:=
 if(rows.find? λy=>At (y.name=nm)).isSome=R\/sJ nm.data.toList=O then(11,V)
 else if(rows.find? λy=>At (y.id=id)).isSome=R then(1,V)
 else match yn tx.data.toList with
  |none=>(3,V)
  |some t=>if c.fmt=1/\(nS.pF p0 t.sub&&qc t)=O then(12,V)else(0,U ⟨id,nm,tx,t⟩)
structure a9f(r bn bi:Nat)(c:oO)(L:List oV)(ar:Nat×Option Row)(w w':M):Prop where
 kp:rF (λd=>d=bn\/d=bi) w w'
 rg:∀row,ar.2=U row->∃x:oV,x.r=row/\qG r bn bi c (x::L) w'
def Ta(L:List oV)(nm:An):((L.map λx=>x.r).find? λy=>At (y.name=nm)).isSome=(L.find? λx=>At (x.r.name=nm)).isSome:=by
 rw[List.find?_map,Option.isSome_map];rfl
def a0M(L:List oV)(id:Nat):((L.map λx=>x.r).find? λy=>At (y.id=id)).isSome=(L.find? λx=>At ((x.r.id:Int)=(id:Int))).isSome:=by
 rw[List.find?_map,Option.isSome_map];have:((λr:Row=>At (r.id=id))∘λx:oV=>x.r)=λx:oV=>At ((x.r.id:Int)=(id:Int)):=funext λx=>decide_eq_decide.2 (by show x.r.id=id<->(x.r.id:Int)=(id:Int);omega)
 rw[this]
def LU{L:List oV}{p:oV->Bool}(h:(L.find? p).isSome=O):∀y,y∈L->p y=O:=by
 intro y hy;rw[Option.isSome_eq_false_iff,Option.isNone_iff_eq_none]at h;have:=List.find?_eq_none.1 h y hy;simpa using this
def a0N{g r bn bi kt:Nat}{c:oO}{L:List oV}{x:oV}{w0 W:M}(h:RaB g r bn bi c L x.r.id x.r.name x.r.text w0 W)(A:nU W kt #[Y X x.r.ty.lab.kind,Y X x.r.ty.lab.size,u x.ou x.r.ty.sub.length x.cu,Y X x.r.ty.lab.tail] FK)(hs:oD.om W (λk=>r<k) (u x.ou x.r.ty.sub.length x.cu) x.r.ty.sub)(aa:bn≠bi/\r≠bn/\r≠bi)(hk:g<kt)(C:∀y,y∈L->y.r.name≠x.r.name)(E:∀y,y∈L->y.r.id≠x.r.id)(I:x.r.name.size<=jN)(J:x.r.id<18446744073709551616)(N:L.length<1000):KM g r bn bi kt c L x w0 O O W:=by
 have l:=h.lt;refine⟨h.rg.rg,h.rg.nm,h.rg.id,λy hy=> ?_,h.en,A,rF.of (l.1.symm▸h.ql),⟨C,E,I,J,N⟩,K⟩;rcases l5.1 hy with rfl|hy
 .exact hs
 .exact h.rg.sq y hy
def a7h{g r bn bi kt:Nat}{c:oO}{L:List oV}{x:oV}{w0 W:M}(h:KM g r bn bi kt c L x w0 R R W)(A:∀y,y∈x::L->qc y.r.ty=R/\(c.fmt=1->(nS.pF p0 y.r.ty.sub&&qc y.r.ty)=R)/\y.r.name.size<=12):qG r bn bi c (x::L) W:=
 ⟨h.rg,h.nm,h.id,h.sub,A⟩
def a0O{l:List Ax}{t:nS TL}(h:yn l=U t):qc t=R:=by
 unfold yn at h;split at h
 .split at h
  .rename_i A;cases h;exact A
  .cases h
 .cases h
def Vo{p:Prop}(h:p:=by
 go_wp2;try go_returns
 exact⟨by rw[HE.out];rfl,rF.of (hg.symm▸HF.1.ql),by rw[HE.out];exact λ_ h=>by cases h⟩):p:=h
def a0P{p:Prop}(h:p:=by
 intro vs8 W8 h8;have H8:=H h8;clear h8;simp only[jH,jQ,jR];go_upto_region 13 with fail;refine a0z (g:=g) (r:=r) (bn:=bn) (bi:=bi) (kt:=kt) (c:=c) (L:=L) (x:=⟨⟨id,nm,tx,.node a sub⟩,o,cc⟩) (w0:=w) (ht0:=by rfl) (ht3:=by rfl) (LG:=by rfl) (hsz:=by rfl) (hI0:=λ_=>H8.below (oM _)) ?_;intro vs9 W9 h9;have H9:=H h9;clear h9;simp only[jH,jQ,jR];go_wp2;try go_returns
 exact⟨by rw[HE.out];rfl,H9.kp,by rw[HE.out];exact λrow h=>by cases h;exact⟨⟨⟨id,nm,tx,.node a sub⟩,o,cc⟩,rfl,a7h H9 a0Q.out⟩⟩):p:=h
def a4p(r bn bi:Nat)(c:oO)(L:List oV)(id:Nat)(nm tx:An)(w:M)(h:qG r bn bi c L w)(aM:bn≠bi/\r≠bn/\r≠bi)(ai:nm.size<=jN)(aN:tx.size<=jN)(hid:id<18446744073709551616)(hL:L.length<1000)(bg:qK w):
  jG jy 87 #[nG (U (Z r 0 V)),nI #[Y nN id,G nm,G tx]] w λe w'=>e=nK (Y X (vH c (L.map λx=>x.r) id nm tx).1)/\a9f r bn bi c L (vH c (L.map λx=>x.r) id nm tx) w w':=by
 obtain⟨g,hg⟩:=og w.heap.size;have bG:=h.lt3;have aO:jI (∀W,w.alloc (nL #[Y nN id,G nm,G tx] Xm)=W->RaB g r bn bi c L id nm tx w W/\W.heap.size=g+1):=H λW af=>by
  subst af;have a:=(jE w.heap.size w).alloc (jB _) (nL #[Y nN id,G nm,G tx] Xm);exact⟨⟨h.below a,hg▸nU.new w _ _,hg▸a,hg,K⟩,by simp[hg]⟩
 have J:jI (∀W,qG r bn bi c L W->_):=H λW af=>af.look nm ai
 have N:jI (∀W,qG r bn bi c L W->_):=H λW af=>af.a5s id hid
 have bq:=H h;have aP:=H (λ(W:M) (hb:jD g w W)=>bg.below hb (hg▸bg.lt));have aa:=H (jF aM (jF ai (jF aN (jF hid hL))));obtain⟨bH,aQ,_⟩:=zm L λx=>At (x.r.name=nm)
 obtain⟨bI,aR,_⟩:=zm L λx=>At ((x.r.id:Int)=(id:Int))
 rw[aQ]at J;rw[aR]at N;unfold RC.cs at J N;obtain⟨b1,aj⟩:=og ((L.find? λx=>At (x.r.name=nm)).isSome);obtain⟨b4,ak⟩:=og ((L.find? λx=>At ((x.r.id:Int)=(id:Int))).isSome);obtain⟨E,aA⟩:=og (vH c (L.map λx=>x.r) id nm tx)
 have ae:jI (E=if b1=R\/sJ nm.data.toList=O then(11,V)else if b4=R then(1,V)else match yn tx.data.toList with
  |none=>(3,V)
  |some t=>if c.fmt=1/\(nS.pF p0 t.sub&&qc t)=O then(12,V)else(0,U ⟨id,nm,tx,t⟩)):=H (by rw[<-aA];unfold vH;rw[Ta,a0M,aj,ak])
 have aS:jI (b1=O->∀y,y∈L->y.r.name≠nm):=H λe y hy=>by have:=LU (aj.trans e) y hy;simpa using this
 have aT:jI (b4=O->∀y,y∈L->y.r.id≠id):=H λe y hy=>by have:=LU (ak.trans e) y hy;simp at this;omega
 rw[aj]at J;rw[ak]at N;rw[aA];have bu:=H (λW=>MP nm W ai);generalize aU:sJ nm.data.toList=bm at*;have bA:=H aU;clear h aM ai aN hid hL bg aQ aR aj ak aA bG aU;go_in;go_upto_region 1 with fail;obtain⟨hI,bB⟩:=aO.out _ rfl;generalize w.alloc _=w1 at*;have aB:=H (jF hI bB);clear aO hI bB;refine a4j (g:=g) (r:=r) (bn:=bn) (bi:=bi) (c:=c) (L:=L) (Kn:=id) (nm:=nm) (tx:=tx) (w0:=w) (k:=g+1) (b:=b1) (x:=bH) (ht0:=by rfl) (ht3:=by rfl) (hl:=J.out) (h0:=bq.out) (hsz:=by rfl) (hI0:=λ_=>⟨aB.1.below (oM w1),by simpa using aB.2,(λh=>by cases h),K⟩) ?_;intro vs bJ hF;have HF:=H (jF hF.b (show bJ.heap.size=g+2 by simpa using hF.sz));clear hF aB J;simp only[jH,jQ,jR];cases b1 with
 |true=>
  have HE:jI (E=(11,V)):=H (by rw[ae.out,AC (.inl rfl)]);exact Vo
 |false=>
  cases bm with
  |false=>
   have HE:jI (E=(11,V)):=H (by rw[ae.out,AC (.inr rfl)]);have c1:=HF.1.en.c1;go_wp2_with fail;refine(bu _).mono ?_;rintro e w3 ⟨rfl,rfl⟩;exact Vo
  |true=>
   have c1:=HF.1.en.c1;go_wp2_with fail;refine(bu _).mono ?_;rintro e w3 ⟨rfl,bC⟩;subst bC;clear bu c1;go_upto_region 4 with fail;refine a4k (g:=g) (r:=r) (bn:=bn) (bi:=bi) (c:=c) (L:=L) (Kn:=id) (nm:=nm) (tx:=tx) (w0:=w) (k:=g+2) (b:=b4) (x:=bI) (ht0:=by rfl) (ht3:=by rfl) (hl:=N.out) (h0:=bq.out) (hsz:=by rfl) (hI0:=λ_=>⟨HF.1.below (oM w3),by simpa using HF.2,(λh=>by cases h),K⟩) ?_;intro vs aC aD;have A:=H (jF aD.b (show aC.heap.size=g+3 by simpa using aD.sz));clear aD HF N;simp only[jH,jQ,jR];cases b4 with
   |true=>
    have HE:jI (E=(1,V)):=H (by rw[ae.out,As nX,AC rfl]);go_wp2;try go_returns
    exact⟨by rw[HE.out];rfl,rF.of (hg.symm▸A.1.ql),by rw[HE.out];exact λ_ h=>by cases h⟩
   |false=>
    have au:jI (E=match yn tx.data.toList with
     |none=>(3,V)
     |some t=>if c.fmt=1/\(nS.pF p0 t.sub&&qc t)=O then(12,V)else(0,U ⟨id,nm,tx,t⟩)):=H (by rw[ae.out,As nX,As nX])
    clear ae;have c2:=A.1.en.c2;have bz:=H (Xu tx aC aa.2.2.1 (aP aC A.1.ql));go_wp2_with fail;refine bz.mono ?_;unfold JQ;rintro e w5 ⟨a,o,n,cc,er,sub,rfl,av,bS,I,C⟩;obtain⟨kt,aF⟩:=og w5.heap.size;obtain⟨_,_,aV,_⟩:=(show oD.om w5 (λk=>aC.heap.size<=k) (u o n cc) sub from I);obtain⟨bK,bL,rc⟩:o=o/\n=sub.length/\cc=cc:=⟨rfl,by injection aV,rfl⟩;subst bL;clear aV bK rc;have aL:jI (∀W,w5.alloc (nL #[Y X a.kind,Y X a.size,u o sub.length cc,Y X a.tail] FK)=W->RaB g r bn bi c L id nm tx w W/\nU W kt #[Y X a.kind,Y X a.size,u o sub.length cc,Y X a.tail] FK/\oD.om W (λk=>r<k) (u o sub.length cc) sub/\g<kt):=H λW af=>by
     subst af;have al:=(jE w5.heap.size w5).alloc (jB _) (nL #[Y X a.kind,Y X a.size,u o sub.length cc,Y X a.tail] FK);have:=av.size;have:=A.2;exact⟨(A.1.below av).below al,aF▸nU.new w5 _ _,(Shape.om.below I al).keep (jB _) (λk _ hk=>by have hk:aC.heap.size<=k:=hk;have:=A.1.lt;have:=A.1.ql.size;show r<k;omega) λ_ _ _=>rfl,K⟩
    rcases C with⟨C,rfl⟩|⟨C,rfl,rfl,rfl⟩
    .have ax:=H C
     clear av I C bz c2;go_upto_region 10 with fail;obtain⟨hB,ay,aG,aH⟩:=aL.out _ rfl;generalize w5.alloc _=ag at*;have aI:=H (jF hB (jF ay (jF aG aH)));have aW:jI (KM g r bn bi kt c L ⟨⟨id,nm,tx,.node a sub⟩,o,cc⟩ w O O ag):=H (a0N (x:=⟨⟨id,nm,tx,.node a sub⟩,o,cc⟩) hB ay aG aa.1 aH (by first|exact aS rfl|exact aS trivial) (by first|exact aT rfl|exact aT trivial) aa.2.1 aa.2.2.2.1 aa.2.2.2.2);have c0:=hB.rg.rg.c0;obtain⟨bM,bN,y2,bO⟩:=ay.a4;clear hB ay aG aH aL aF;have a0Q:∀ b:Bool,(c.fmt=1->b=R)->(nS.pF p0 sub&&qc (.node a sub))=b->∀y,y∈(⟨⟨id,nm,tx,.node a sub⟩,o,cc⟩:oV)::L->qc y.r.ty=R/\(c.fmt=1->(nS.pF p0 y.r.ty.sub&&qc y.r.ty)=R)/\y.r.name.size<=12:=λb hb bD y hy=>by
      rcases l5.1 hy with rfl|hy
      .refine⟨a0O ax.out,λbP=>(bD.trans (hb bP):(nS.pF p0 sub&&qc (.node a sub))=R),?_⟩
       have:=bA.out;unfold sJ at this;simp only[jJ,decide_eq_true_eq]at this;have e:nm.data.toList.length=nm.size:=kH;show nm.size<=12;omega
      .exact bq.may y hy
     have az:=H a0Q;clear a0Q;by_cases ah:c.fmt=1
     .have bQ:(c.fmt==1)=R:=by simp[ah]
      have bR:=H ah;have bE:=H (Fz (.node a sub) ag (u o sub.length cc) (aI.2.2.1.keep (jB _) (λ_ _ _=>trivial) λ_ _ _=>rfl) (aP ag aI.1.ql));obtain⟨bF,aJ⟩:=og ((nS.pF p0 sub&&qc (.node a sub)));have aK:=H aJ;have aX:jI (jG jy 122 #[nI #[Y X a.kind,Y X a.size,u o sub.length cc,Y X a.tail]] ag λe w'=>e=nK (nH bF)/\jD ag.heap.size ag w'):=H (aJ▸bE.out);clear ah bE aJ;go_wp2_with fail;refine aX.mono ?_;rintro e bT ⟨rfl,aY⟩;have aZ:=H aY;clear aY aX c0 bM bN y2 bO;cases bF with
      |false=>
       have HE:jI (E=(12,V)):=H (by rw[au.out,ax.out];exact AC ⟨bR.out,aK.out⟩);go_wp2;try go_returns
       exact⟨by rw[HE.out];rfl,rF.of (hg.symm▸(aI.1.below aZ).ql),by rw[HE.out];exact λ_ h=>by cases h⟩
      |true=>
       have HE:jI (E=(0,U ⟨id,nm,tx,.node a sub⟩)):=H (by rw[au.out,ax.out];exact As λh=>Bool.false_ne_true (h.2.symm.trans aK));have a0Q:=H (az R (λ_=>rfl) aK);go_upto_region 12 with fail;refine Qh (g:=g) (r:=r) (bn:=bn) (bi:=bi) (kt:=kt) (c:=c) (L:=L) (x:=⟨⟨id,nm,tx,.node a sub⟩,o,cc⟩) (w0:=w) (ht0:=by rfl) (ht3:=by rfl) (LG:=by rfl) (hsz:=by rfl) (hI0:=λ_=>(aW.below aZ).below (oM _)) ?_;exact a0P
     .have bQ:(c.fmt==1)=O:=by simp[ah]
      have HE:jI (E=(0,U ⟨id,nm,tx,.node a sub⟩)):=H (by rw[au.out,ax.out];exact As λh=>ah h.1);have a0Q:=H (az _ (λh=>absurd h ah) rfl);clear ah;go_upto_region 12 with fail;refine Qh (g:=g) (r:=r) (bn:=bn) (bi:=bi) (kt:=kt) (c:=c) (L:=L) (x:=⟨⟨id,nm,tx,.node a sub⟩,o,cc⟩) (w0:=w) (ht0:=by rfl) (ht3:=by rfl) (LG:=by rfl) (hsz:=by rfl) (hI0:=λ_=>aW.below (oM _)) ?_;exact a0P
    .have HE:jI (E=(3,V)):=H (by rw[au.out,C])
     clear av I C bz c2;go_upto_region 8 with fail;obtain⟨hB,_⟩:=aL.out _ rfl;generalize w5.alloc _=ag at*;have aI:=H hB;clear hB aL aF;go_wp2;try go_returns
     exact⟨by rw[HE.out];rfl,rF.of (hg.symm▸aI.ql),by rw[HE.out];exact λ_ h=>by cases h⟩
structure yI where
 id:Nat
 nm:An
 tx:An
def Kq(w:M)(v:jC)(A:List yI):Prop:=
 ∃oa cap,v=u oa A.length cap/\A.length<=cap/\cap<=jN/\∀i e,A[i]? =U e->∃b off,oa=U (Z b off V)/\b<w.heap.size/\w.cell? (Z b (off+i*3) V)=U (Y nN e.id)/\w.cell? (Z b (off+i*3+1) V)=U (G e.nm)/\w.cell? (Z b (off+i*3+2) V)=U (G e.tx)
def Kq.below{w w':M}{v:jC}{A:List yI}(h:Kq w v A)(hb:jD w.heap.size w w'):Kq w' v A:=by
 obtain⟨oa,cap,C,E,I,J⟩:=h;refine⟨oa,cap,C,E,I,λi e he=> ?_⟩;obtain⟨b,off,ho,hl,c0,c1,c2⟩:=J i e he;have q:∀o,w'.cell? (Z b o V)=w.cell? (Z b o V):=λo=>mX (w:=w) (a:=(Z b o V)) (hb.block b hl)
 exact⟨b,off,ho,jZ hl hb.size,by rw[q];exact c0,by rw[q];exact c1,by rw[q];exact c2⟩
def sD(c:oO):List Row->List yI->Except Nat (List Row)
 |rows,[]=> .ok rows
 |rows,e::A=>match vH c rows e.id e.nm e.tx with
  |(er,V)=> .error er
  |(_,U row)=>sD c (row::rows) A
def vV(c:oO)(A:List yI):Except Nat (List Row):=if oL c=O then .error 1 else if 32<A.length then .error 4 else sD c [] A
def Qo(c:oO)(rows:List Row)(id:Nat)(nm tx:An):(vH c rows id nm tx).2=V/\(vH c rows id nm tx).1≠0\/(vH c rows id nm tx).1=0/\∃row,(vH c rows id nm tx).2=U row:=by
 unfold vH;split;.exact .inl ⟨rfl,nT⟩
 .split
  .exact .inl ⟨rfl,nT⟩
  .split
   .exact .inl ⟨rfl,nT⟩
   .split
    .exact .inl ⟨rfl,nT⟩
    .exact .inr ⟨rfl,_,rfl⟩
def Cc(c:oO)(A:List yI)(w:M)(e:Ending)(w':M):Prop:=
 jD w.heap.size w w'/\match vV c A with
 | .error er=>e=nK (nJ #[nG V,Y X er])/\er≠0
 | .ok rows=>∃r bn bi L,e=nK (nJ #[nG (U (Z r 0 V)),Y X 0])/\qG r bn bi c L w'/\(L.map λx:oV=>x.r)=rows/\(bn≠bi/\r≠bn/\r≠bi)/\w.heap.size<=r/\w.heap.size<=bn/\w.heap.size<=bi
abbrev Tc:jX:=159
structure Vp(w0:M)(g r bn bi:Nat)(c:oO)(L:List oV)(W:M):Prop where
 rg:qG r bn bi c L W
 ql:jD g w0 W
 lt:w0.heap.size=g/\g<bn/\g<bi/\g<r/\bn≠bi/\r≠bn/\r≠bi
def Vp.below{w0:M}{g r bn bi:Nat}{c:oO}{L:List oV}{W A:M}(h:Vp w0 g r bn bi c L W)(hb:jD W.heap.size W A):Vp w0 g r bn bi c L A:=
 ⟨h.rg.below hb,h.ql.trans (hb.mono (by have:=h.lt;have:=h.ql.size;omega)),h.lt⟩
def Vp.add{w0:M}{g r bn bi:Nat}{c:oO}{L C:List oV}{W A:M}(h:Vp w0 g r bn bi c L W)(k:rF (λd=>d=bn\/d=bi) W A)(E:qG r bn bi c C A):Vp w0 g r bn bi c C A:=
 ⟨E,h.ql.trans (k.below (λd hd I=>by have:=h.lt;omega) (by have:=h.lt;have:=h.ql.size;omega)),h.lt⟩
def Vp.kp{w0:M}{g r bn bi:Nat}{c:oO}{L:List oV}{W A:M}(h:Vp w0 g r bn bi c L W)(k:rF (λd=>d=bn\/d=bi) W A):jD g w0 A:=
 h.ql.trans (k.below (λd hd C=>by have:=h.lt;omega) (by have:=h.lt;have:=h.ql.size;omega))
def a0R(c:oO)(bn bi:Nat)(pf gf:jC):Array jC:=#[Y X c.fmt,Y nO c.mag,Y X c.pV,Y X c.qH,Y X c.dep,Y X c.pq,.map (U bn),.map (U bi),pf,gf]
def ptV(c:oO):jC:=.func (.func 83) #[nI #[Y X c.dep,Y X c.pq]] #[]
def gtV(c:oO):jC:=.func (.func 84) #[nI #[Y X c.dep,Y X c.pq]] #[]
structure NwM(w0:M)(g k:Nat)(c:oO)(pf gf:jC)(W:M):Prop where
 cf:nU W g #[Y X c.fmt,Y nO c.mag,Y X c.pV,Y X c.qH,Y X c.dep,Y X c.pq] uk
 cp:nU W k #[Y X c.dep,Y X c.pq] Tc
 rg:nU W (k+3) (a0R c (k+1) (k+2) pf gf) RgT
 nm:qU NmK tT W (k+1) 0 []
 id:qU IdK tT W (k+2) 0 []
 ql:jD g w0 W
 lt:w0.heap.size=g/\g<k
def NwM.of{w0:M}{g k:Nat}{c:oO}{W:M}(N:jD g w0 W)(C:nU W g #[Y X c.fmt,Y nO c.mag,Y X c.pV,Y X c.qH,Y X c.dep,Y X c.pq] uk)(E:nU W k #[Y X c.dep,Y X c.pq] Tc)(A:W.heap.size=k+1)(hl:w0.heap.size=g/\g<k)(pf gf:jC):
  NwM w0 g k c pf gf (((W.alloc (.map #[] 0)).alloc (.map #[] 0)).alloc (nL (a0R c (k+1) (k+2) pf gf) RgT)):=by
 have aa:=(jE W.heap.size W).alloc (jB _) (.map #[] 0);have a2:=aa.alloc nX (.map #[] 0);have a3:=a2.alloc nY (nL (a0R c (k+1) (k+2) pf gf) RgT);have I:=qU.made NmK tT W;have m2:=qU.made IdK tT (W.alloc (.map #[] 0));have J:=nU.new ((W.alloc (.map #[] 0)).alloc (.map #[] 0)) (a0R c (k+1) (k+2) pf gf) RgT;rw[A]at I;rw[World.size_alloc,A]at m2;rw[World.size_alloc,World.size_alloc,A]at J;exact⟨Below.blk a3 C C.lt,Below.blk a3 E E.lt,J,(I.below ((jE _ _).alloc (jB _) _)).below (((jE _ _).alloc (jB _) _)),m2.below ((jE _ _).alloc (jB _) _),N.trans (a3.mono K),hl⟩
def NwM.put{w0:M}{g k:Nat}{c:oO}{pf gf NI gf2:jC}{W:M}(h:NwM w0 g k c pf gf W):NwM w0 g k c NI gf2 ((W.setCell (Z (k+3) 8 V) NI).setCell (Z (k+3) 9 V) gf2):=by
 have l:=h.lt;have A:∀d,d≠k+3->((W.setCell (Z (k+3) 8 V) NI).setCell (Z (k+3) 9 V) gf2).heap[d]? =W.heap[d]? :=λd hd=>(jW _ (Z (k+3) 9 V) _ d hd).trans (jW _ (Z (k+3) 8 V) _ d hd)
 have q:∀{d:Nat}{cs:Array jC}{t:jX},nU W d cs t->d≠k+3->nU ((W.setCell (Z (k+3) 8 V) NI).setCell (Z (k+3) 9 V) gf2) d cs t:=λhB hd=>by unfold nU;rw[A _ hd];exact hB
 refine⟨q h.cf K,q h.cp K,(h.rg.set 8 NI).set 9 gf2,h.nm.block (A _ K),h.id.block (A _ K),?_,l⟩;exact(h.ql.setCell (p:=(Z (k+3) 8 V)) (by show g<=k+3;omega) _).setCell (p:=(Z (k+3) 9 V)) (by show g<=k+3;omega) _
def NwM.i{w0:M}{g k:Nat}{c:oO}{W:M}(h:NwM w0 g k c (Jt c) (LA c) W):Vp w0 g (k+3) (k+1) (k+2) c [] W:=
 ⟨⟨h.rg,h.nm,h.id,(λy hy=>by cases hy),(λy hy=>by cases hy)⟩,h.ql,by have:=h.lt;omega⟩
def FM{c:oO}{A:List yI}{w w':M}{er:Nat}(h:vV c A=.error er)(hb:jD w.heap.size w w')(hn:er≠0):Cc c A w (nK (nJ #[nG V,Y X er])) w':=⟨hb,by rw[h];exact⟨rfl,hn⟩⟩
def a7i{c:oO}{A:List yI}{w w':M}{g r bn bi:Nat}{L:List oV}(h:vV c A=.ok (L.map λx=>x.r))(hI:Vp w g r bn bi c L w'):Cc c A w (nK (nJ #[nG (U (Z r 0 V)),Y X 0])) w':=by
 have l:=hI.lt;exact⟨l.1.symm▸hI.ql,by rw[h];exact⟨r,bn,bi,L,rfl,hI.rg,rfl,K,K,K,K⟩⟩
def Vq{p:Prop}(h:p:=by
 subst hW;exact⟨hg▸(jE w.heap.size w).alloc (jB _) _,hg▸nU.new w _ _,by simp[hg]⟩):p:=h
def a5B{p:Prop}(h:p:=by
 generalize hr0:kp+3=r at*;generalize hn0:kp+1=bn at*;generalize hi0:kp+2=bi at*;obtain⟨TOT,a7j⟩:=og (sD c [] es);have b0D:=H a7j;have HE2:jI (vV c es=TOT):=H (HE.trans a7j);clear a7j HE hr0 hn0 hi0;go_loopw [45] (λkv wi=>∃k:Nat,kv=Y X (k:Int)/\k<=n/\jI (∃L:List oV,Vp w g r bn bi c L wi/\L.length=k/\sD c (L.map λx=>x.r) (es.drop k)=TOT)) (λkv _=>n -(kC kv).toNat);case atStart=>exact⟨0,rfl,ko _,H ⟨[],U7.out,rfl,b0D.out⟩⟩
 case round=>
  obtain⟨k,rfl,hk,HJ⟩:=hrel;obtain⟨L,hI,hLk,hnl⟩:=HJ.out;clear HJ;have HI:=H hI;have HLK:=H hLk;have HNL:=H hnl;clear hI hLk hnl;by_cases hkn:k<n
  .have tk:At (k<n)=R:=nY
   have hn32:n<=32:=by have:=H32.out;omega
   obtain⟨e,he⟩:∃e,es[k]? =U e:=⟨_,jL (by rw[HN.out];exact hkn)⟩;obtain⟨b,off,rfl,hbl,q0,q1,q2⟩:=HC.2.2.1 k e he;have hq:∀o,wr.cell? (Z b o V)=w.cell? (Z b o V):=λo=>mX (w:=w) (a:=(Z b o V)) (HI.ql.block b K)
   have z0:=(hq _).trans q0;have z1:=(hq _).trans q1;have z2:=(hq _).trans q2;have HES:=H (HC.2.2.2 e (kE he));have HDR:jI (es.drop k=e::es.drop (k+1)):=H (by
    obtain⟨h1,h2⟩:=lu.1 he;rw[nA h1,h2])
   clear hq q0 q1 q2 he hbl;have HAL:jI (∀W,wr.alloc (nL #[Y nN e.id,G e.nm,G e.tx] Xm)=W->Vp w g r bn bi c L W/\nU W wr.heap.size #[Y nN e.id,G e.nm,G e.tx] Xm):=H λW hW=>by
    subst hW;exact⟨HI.below ((jE _ _).alloc (jB _) _),nU.new wr _ _⟩
   go_upto_region 12 with fail;obtain⟨hI6,hB6⟩:=HAL.out _ rfl;generalize wr.alloc _=w6 at*;have HI6:=H hI6;obtain⟨v0,v1,v2⟩:=hB6.a3;have CA:=H (a4p r bn bi c L e.id e.nm e.tx w6 hI6.rg ⟨hI6.lt.2.2.2.2.1,hI6.lt.2.2.2.2.2⟩ HES.1 HES.2.1 HES.2.2 (by have:=HLK.out;have:=H32.out;omega) (HTT w6 hI6.ql));obtain⟨⟨er,ro⟩,hAE⟩:∃ar,vH c (L.map λx=>x.r) e.id e.nm e.tx=ar:=⟨_,rfl⟩;have hcase:=Qo c (L.map λx=>x.r) e.id e.nm e.tx;rw[hAE]at CA hcase;have HAE:=H hAE;dsimp only at CA hcase;clear hI6 hB6 HAL z0 z1 z2 hAE;go_wp2_with fail;refine CA.mono ?_;rintro e7 w7 ⟨rfl,hok⟩;have KN:=H hok;clear hok CA v0 v1 v2;rcases hcase with⟨rfl,hne⟩|⟨rfl,row,rfl⟩
   .have te:((er:Int) !=0)=R:=nY
    have HER:jI (vV c es=.error er):=H (by rw[HE2.out,<-HNL.out,HDR.out,sD,HAE.out]);have HNE:=H hne;clear hne;go_wp2;try go_returns
    rw[<-HP.out];exact FM HER (hg.symm▸HI6.kp KN.kp) HNE.out
   .have te:(((0:Nat):Int) !=0)=O:=nX
    go_wp2;go_roundw;case rel=>
     obtain⟨x,hx,hr⟩:=KN.rg row rfl;refine⟨k+1,nX,K,H ⟨x::L,HI6.add KN.kp hr,by simp[HLK.out],?_⟩⟩;have h9:=HNL.out;rw[HDR.out,sD,HAE.out]at h9;rw[mf,hx];exact h9
    case measure=>simp[kC];omega
  .have tk:At (k<n)=O:=nY
   have HEN:jI (vV c es=.ok (L.map λx=>x.r)):=H (by
    have h9:=HNL.out;rw[List.drop_eq_nil_of_le (by rw[HN.out];omega),sD]at h9;rw[HE2.out,<-h9])
   clear hkn;go_wp2;try go_returns
   rw[<-HP.out];exact a7i HEN HI.out):p:=h
def a4q(c:oO)(es:List yI)(v:jC)(w:M)(aQ:Kq w v es)(ay:∀e,e∈es->e.nm.size<=jN/\e.tx.size<=jN/\e.id<18446744073709551616)(aG:qK w):
  jG jy 52 #[c.v,v] w (Cc c es w):=by
 have aT:=@run_makeMap jy;obtain⟨oa,cap,rfl,aa,ae,J⟩:=aQ;obtain⟨n,hn⟩:=og es.length;obtain⟨g,hg⟩:=og w.heap.size;have az:jI (∀W,w.alloc (nL #[Y X c.fmt,Y nO c.mag,Y X c.pV,Y X c.qH,Y X c.dep,Y X c.pq] uk)=W->jD g w W/\nU W g #[Y X c.fmt,Y nO c.mag,Y X c.pV,Y X c.qH,Y X c.dep,Y X c.pq] uk/\W.heap.size=g+1):=H λW hW=>by
  exact Vq
 have aH:=H (λW=>Dl c W);have HTT:=H (λ(W:M) (hb:jD g w W)=>aG.below hb (hg▸aG.lt));have HC:=H (jF aa (jF ae (jF J ay)));have ah:jI (vV c es=if oL c=O then .error 1 else if 32<n then .error 4 else sD c [] es):=H (by unfold vV;rw[hn]);obtain⟨aR,aI⟩:=og (Cc c es w);have HP:=H aI;have HN:=H hn;rw[aI,hn];unfold oO.v oO.cs at aH|-;generalize aU:oL c=rc at*;clear aa ae J ay aG aI hn;go_in;go_upto_region 1 with fail;obtain⟨aA,ai,aB⟩:=az.out _ rfl;generalize w.alloc _=w1 at*;have E:=H (jF aA (jF ai aB));obtain⟨c0,c1,c2,c3,c4,c5⟩:=ai.a6;clear az aA ai aB;go_wp2_with fail;refine(aH _).mono ?_;rintro e w2 ⟨rfl,af⟩;have C:jI (jD g w w2/\nU w2 g #[Y X c.fmt,Y nO c.mag,Y X c.pV,Y X c.qH,Y X c.dep,Y X c.pq] uk/\g<w2.heap.size):=H ⟨E.1.trans (af.mono (by have:=E.2.2;omega)),Below.blk af E.2.1 E.2.1.lt,by have:=E.2.2;have:=af.size;omega⟩;clear E af aH c0 c1 c2 c3 c4 c5;cases rc with
 |false=>
  have HE:=H (ah.trans (AC rfl));go_wp2;try go_returns
  rw[<-HP.out];exact FM HE (hg.symm▸C.1) nT
 |true=>
  by_cases N:32<n
  .have t0:At ((n:Int)>32)=R:=nY
   have HE:=H (ah.trans ((As nX).trans (AC N)));clear N;go_wp2;try go_returns
   rw[<-HP.out];exact FM HE (hg.symm▸C.1) nT
  .have t0:At ((n:Int)>32)=O:=nY
   have HE:=H (ah.trans ((As nX).trans (As N)));have H32:=H N;have aC:=C.2.1;obtain⟨c0,c1,c2,c3,c4,c5⟩:=aC.a6;clear N aC;obtain⟨kp,aj⟩:=og w2.heap.size;have aK:jI (∀W,w2.alloc (nL #[Y X c.dep,Y X c.pq] Tc)=W->jD g w W/\nU W g #[Y X c.fmt,Y nO c.mag,Y X c.pV,Y X c.qH,Y X c.dep,Y X c.pq] uk/\nU W kp #[Y X c.dep,Y X c.pq] Tc/\W.heap.size=kp+1/\g<kp):=H λW hW=>by
    subst hW;have al:=(jE w2.heap.size w2).alloc (jB _) (nL #[Y X c.dep,Y X c.pq] Tc);have:=C.2.2;exact⟨C.1.trans (al.mono K),Below.blk al C.2.1 C.2.1.lt,aj▸nU.new w2 _ _,by simp[aj],K⟩
   go_upto_region 6 with fail;have aL:=aK.out _ rfl;generalize w2.alloc _=w3 at*;clear c0 c1 c2 c3 c4 c5 aK;have A:=H aL;clear aL;obtain⟨c0,c1,c2,c3,c4,c5⟩:=A.2.1.a6;obtain⟨ak,au⟩:=A.2.2.1.a2;have aD:=A.2.2.2.1;obtain⟨z0,z1⟩:=((A.2.2.1.alloc (.map #[] 0)).alloc (.map #[] 0)).a2;have aM:jI (∀W,((w3.alloc (.map #[] 0)).alloc (.map #[] 0)).alloc (nL #[Y X c.fmt,Y nO c.mag,Y X c.pV,Y X c.qH,Y X c.dep,Y X c.pq,.map (U (kp+1)),.map (U (kp+2)),.func (.func 83) #[nI #[Y X c.dep,Y X c.pq]] #[],.func (.func 84) #[nI #[Y X c.dep,Y X c.pq]] #[]] RgT)=W->NwM w g kp c (ptV c) (gtV c) W):=H λW hW=>by
    subst hW;exact NwM.of A.1 A.2.1 A.2.2.1 aD ⟨hg,A.2.2.2.2⟩ _ _
   go_upto_region 7 with fail;rw[show kp+1+1+1=kp+3 from rfl,show kp+1+1=kp+2 from rfl];have I:=aM.out _ rfl;generalize ((w3.alloc _).alloc _).alloc _=w4 at*;have ag:=H I;have aJ:=I.cf.cell 0;have av:=I.rg.cell 8;have ax:=I.rg.cell 9;have aN:=I.rg.free 8;have aO:=I.rg.free 9;have ak:=I.cp.cell 0;have au:=I.cp.cell 1;simp only[a0R,jV,jS,jT]at aJ av ax ak au;clear aM I z0 z1 c0 c1 c2 c3 c4 c5 aD A C aj;unfold ptV at av;unfold gtV at ax;by_cases h1:c.fmt=1
   .have aS:(c.fmt==1)=R:=by simp[h1]
    have aP:=H h1;clear h1;have U7:jI (∀W,(w4.setCell (Z (kp+3) 8 V) (.func (.func 85) #[nI #[Y X c.dep,Y X c.pq]] #[])).setCell (Z (kp+3) 9 V) (.func (.func 86) #[nI #[Y X c.dep,Y X c.pq]] #[])=W->Vp w g (kp+3) (kp+1) (kp+2) c [] W):=H λW hW=>by
     subst hW;have hp:=ag.put (NI:=.func (.func 85) #[nI #[Y X c.dep,Y X c.pq]] #[]) (gf2:=.func (.func 86) #[nI #[Y X c.dep,Y X c.pq]] #[]);refine NwM.i ?_;unfold Jt LA;rw[AC aP.out,AC aP.out];exact hp
    go_upto_region 10 with fail;have aF:=U7.out _ rfl;generalize (w4.setCell (Z (kp+3) 8 V) _).setCell (Z (kp+3) 9 V) _=w5 at*;have U7:=H aF;clear aF aJ av ax aN aO ak au ag;exact a5B
   .have aS:(c.fmt==1)=O:=by simp[h1]
    have U7:jI (Vp w g (kp+3) (kp+1) (kp+2) c [] w4):=H (NwM.i (by unfold Jt LA;rw[As h1,As h1];exact ag));clear h1 av ax aN aO ak au ag;go_upto_region 10 with fail;clear aJ;exact a5B
def qi(T:An)(er:Int)(w:M)(e:Ending)(w':M):Prop:=e=nK (nJ #[G T,Y X er])/\jD w.heap.size w w'
def a0T{p:Prop}(h:p:=by
 subst hW;have a1:=(jE w.heap.size w).alloc (jB _) (nL #[Y X dep,Y X pq] Tc);have a2:=a1.alloc nX (nL #[Y X k,Y X z,u ou n cu,Y X tl] FK);have a3:=a2.alloc nY (nL #[G tx,nH li,u oi ni ci] IT);have k1:=nU.new w #[Y X dep,Y X pq] Tc;have k2:=nU.new (w.alloc (nL #[Y X dep,Y X pq] Tc)) #[Y X k,Y X z,u ou n cu,Y X tl] FK;have k3:=nU.new ((w.alloc (nL #[Y X dep,Y X pq] Tc)).alloc (nL #[Y X k,Y X z,u ou n cu,Y X tl] FK)) #[G tx,nH li,u oi ni ci] IT;rw[show(w.alloc (nL #[Y X dep,Y X pq] Tc)).heap.size=g+1 by simp[hg]]at k2;rw[show((w.alloc (nL #[Y X dep,Y X pq] Tc)).alloc (nL #[Y X k,Y X z,u ou n cu,Y X tl] FK)).heap.size=g+2 by simp[hg]]at k3;rw[hg]at k1;exact⟨(k1.alloc _).alloc _,k2.alloc _,k3,a3,by simp[hg]⟩):p:=h
def Qp(k z tl:Int)(ou:Option kW)(n cu:Nat)(tx:An)(li:Bool)(oi:Option kW)(ni ci:Nat)(dep pq:Int)(T:An)(er:Int)(w:M)(hG:∀W,jD w.heap.size w W->jG jy 116 #[nI #[Y X k,Y X z,u ou n cu,Y X tl],nI #[G tx,nH li,u oi ni ci],Y X dep,Y X pq] W (qi T er W)):
  jG jy 83 #[nI #[Y X dep,Y X pq],nI #[Y X k,Y X z,u ou n cu,Y X tl],nI #[G tx,nH li,u oi ni ci]] w (qi T er w):=by
 obtain⟨g,hg⟩:=og w.heap.size;have C:jI (∀W,((w.alloc (nL #[Y X dep,Y X pq] Tc)).alloc (nL #[Y X k,Y X z,u ou n cu,Y X tl] FK)).alloc (nL #[G tx,nH li,u oi ni ci] IT)=W->nU W g #[Y X dep,Y X pq] Tc/\nU W (g+1) #[Y X k,Y X z,u ou n cu,Y X tl] FK/\nU W (g+2) #[G tx,nH li,u oi ni ci] IT/\jD w.heap.size w W/\W.heap.size=g+3):=H λW hW=>by
  exact a0T
 have ae:=H hG;obtain⟨ah,aa⟩:=og (qi T er w);have ai:=H aa;rw[aa];clear hG aa;go_in;go_upto_region 1 with fail;obtain⟨E,I,hk2,A,J⟩:=C.out _ rfl;generalize ((w.alloc _).alloc _).alloc _=w1 at*;obtain⟨c0,c1⟩:=E.a2;obtain⟨t0,aj,ak,t3⟩:=I.a4;obtain⟨au,av,ax⟩:=hk2.a3;have af:=H (jF A J);have N:=H (ae _ A);clear C E I hk2 A J ae;go_wp2_with fail;refine N.mono ?_;rintro e w2 ⟨rfl,hb⟩;have ag:=H hb;clear hb N c0 c1 t0 aj ak t3 au av ax;go_wp2;try go_returns
 rw[<-ai.out];exact⟨rfl,af.1.trans (ag.mono (by have:=af.2;omega))⟩
def KO(k z tl:Int)(ou:Option kW)(n cu:Nat)(tx:An)(li:Bool)(oi:Option kW)(ni ci:Nat)(dep pq:Int)(T:An)(er:Int)(w:M)(hG:∀W,jD w.heap.size w W->jG jy 118 #[nI #[Y X k,Y X z,u ou n cu,Y X tl],nI #[G tx,nH li,u oi ni ci],Y X pq] W (qi T er W)):
  jG jy 85 #[nI #[Y X dep,Y X pq],nI #[Y X k,Y X z,u ou n cu,Y X tl],nI #[G tx,nH li,u oi ni ci]] w (qi T er w):=by
 obtain⟨g,hg⟩:=og w.heap.size;have C:jI (∀W,((w.alloc (nL #[Y X dep,Y X pq] Tc)).alloc (nL #[Y X k,Y X z,u ou n cu,Y X tl] FK)).alloc (nL #[G tx,nH li,u oi ni ci] IT)=W->nU W g #[Y X dep,Y X pq] Tc/\nU W (g+1) #[Y X k,Y X z,u ou n cu,Y X tl] FK/\nU W (g+2) #[G tx,nH li,u oi ni ci] IT/\jD w.heap.size w W/\W.heap.size=g+3):=H λW hW=>by
  exact a0T
 have ae:=H hG;obtain⟨ah,aa⟩:=og (qi T er w);have ai:=H aa;rw[aa];clear hG aa;go_in;go_upto_region 1 with fail;obtain⟨E,I,hk2,A,J⟩:=C.out _ rfl;generalize ((w.alloc _).alloc _).alloc _=w1 at*;have c1:=E.c1;obtain⟨t0,aj,ak,t3⟩:=I.a4;obtain⟨au,av,ax⟩:=hk2.a3;have af:=H (jF A J);have N:=H (ae _ A);clear C E I hk2 A J ae;go_wp2_with fail;refine N.mono ?_;rintro e w2 ⟨rfl,hb⟩;have ag:=H hb;clear hb N c1 t0 aj ak t3 au av ax;go_wp2;try go_returns
 rw[<-ai.out];exact⟨rfl,af.1.trans (ag.mono (by have:=af.2;omega))⟩
def zf3:Array jC:=#[Y nN 0,G ⟨#[]⟩,G ⟨#[]⟩]
structure EnB(g r bn bi:Nat)(c:oO)(L:List oV)(ms:Array jC)(w0 W:M):Prop where
 rg:qG r bn bi c L W
 ms:nU W g ms Az
 rs:nU W (g+1) zf3 rq
 ql:jD g w0 W
 lt:w0.heap.size=g/\r<g/\bn<g/\bi<g
def EnB.below{g r bn bi:Nat}{c:oO}{L:List oV}{ms:Array jC}{w0 W A:M}(h:EnB g r bn bi c L ms w0 W)(hb:jD W.heap.size W A):EnB g r bn bi c L ms w0 A:=
 ⟨h.rg.below hb,Below.blk hb h.ms h.ms.lt,Below.blk hb h.rs h.rs.lt,h.ql.trans (hb.mono (by have:=h.ms.lt;omega)),h.lt⟩
structure EnL(g r bn bi:Nat)(c:oO)(L:List oV)(ms:Array jC)(w0:M)(k:Nat)(x:RC)(da ds:Bool)(W:M):Prop where
 b:EnB g r bn bi c L ms w0 W
 sz:W.heap.size=if da=R then k+1 else k
 bk:da=R->nU W k (if ds=R then x else Ei).cs Hr
 lt:g+1<k
def EnL.made{g r bn bi:Nat}{c:oO}{L:List oV}{ms:Array jC}{w0:M}{k:Nat}{x:RC}{W:M}(h:EnL g r bn bi c L ms w0 k x O O W):EnL g r bn bi c L ms w0 k x R O (W.alloc (nL Ei.cs Hr)):=by
 have A:W.heap.size=k:=by simpa using h.sz
 exact⟨h.b.below ((jE W.heap.size W).alloc (jB _) _),by simp[A],λ_=>A▸nU.new W Ei.cs Hr,h.lt⟩
def EnL.put{g r bn bi:Nat}{c:oO}{L:List oV}{ms:Array jC}{w0:M}{k:Nat}{x:RC}{W:M}(h:EnL g r bn bi c L ms w0 k x R O W)(h0:qG r bn bi c L w0):EnL g r bn bi c L ms w0 k x R R (Ej W k x):=by
 have l:=h.b.lt;have A:=h.lt;have hb:=vT (x:=x) h.b.ql (show g<=k by omega);exact⟨⟨h0.below (l.1▸hb),xX h.b.ms K,xX h.b.rs K,hb,l⟩,by rw[LB];exact h.sz,λ_=>zl (h.bk rfl),h.lt⟩
structure Vr(g k:Nat)(ms:Array jC)(x:RC)(w0 W:M):Prop where
 ql:jD g w0 W
 ms:nU W g ms Az
 rs:nU W (g+1) zf3 rq
 rw_:nU W k x.cs Hr
def Vr.up{g k:Nat}{ms:Array jC}{x:RC}{w0 W A:M}(h:Vr g k ms x w0 W)(hb:jD W.heap.size W A):Vr g k ms x w0 A:=
 ⟨h.ql.trans (hb.mono (by have:=h.ms.lt;omega)),Below.blk hb h.ms h.ms.lt,Below.blk hb h.rs h.rs.lt,Below.blk hb h.rw_ h.rw_.lt⟩
noncomputable def Ig:List lJ:=cO (cL (cR (cR (cB Tryz.f36))))
section
variable (g r bn bi:Nat)(c:oO)(L:List oV)(nm tx:An)(li:Bool)(oi:Option kW)(ni ci:Nat)(w0:M)(k:Nat)(b:Bool)(x:RC)
def Ce:Nat->jC
 |0=> nG (U (Z r 0 V))
 |1=> nG (U (Z r 0 V))
 |2=> nG (U (Z r 6 V))
 |3=> .map (U bn)
 |4=> nG (U (Z g 0 V))
 |5=> G nm
 |6=> nJ #[nI #[Y nN x.i,G x.nm,G x.tx,Y X x.k,Y X x.z,u x.ou x.nu x.cu,Y X x.tl],nH b]
 |7=> nJ #[nI #[Y nN x.i,G x.nm,G x.tx,Y X x.k,Y X x.z,u x.ou x.nu x.cu,Y X x.tl],nH b]
 |8=> nI #[Y nN x.i,G x.nm,G x.tx,Y X x.k,Y X x.z,u x.ou x.nu x.cu,Y X x.tl]
 |9=> nH b
 |10=> nG (U (Z k 0 V))
 |12=> nH b
 |_=>ku
structure a9h(D:Nat->Bool)(vs:Nat->jC)(w:M):Prop where
 oU:EnL g r bn bi c L #[G nm,G tx,nH li,u oi ni ci] w0 k x (D 10) (D 11) w
 val:∀j,(R)=R->D j=R->vs j=Ce g r bn nm k b x j
variable {g r bn bi c L nm tx li oi ni ci w0 k b x}
def a4s{id:Nat}{Q:Exit->Act->M->Prop}{aa:M}(ht0:a0.tmps.getD 0 ku=nG (U (Z r 0 V)))(ht3:a0.tmps.getD 3 ku=nG (U (Z g 0 V)))(hl:∀W,qG r bn bi c L W->(lV 130 (.map (U bn)) (G nm) R).run jy W=.ok (nJ #[nI #[Y nN x.i,G x.nm,G x.tx,Y X x.k,Y X x.z,u x.ou x.nu x.cu,Y X x.tl],nH b]) W)(h0:qG r bn bi c L w0)(hsz:a0.tmps.size=59)(hI0:∀vs:Nat->jC,(λw=>EnL g r bn bi c L #[G nm,G tx,nH li,u oi ni ci] w0 k x O O w) aa.drew)(ae:∀(vs:Nat->jC) (w:M),EnL g r bn bi c L #[G nm,G tx,nH li,u oi ni ci] w0 k x R R w->Q .normal {a0 with tmps:=((((((((((((a0.tmps.setIfInBounds 14 (nG (U (Z r 0 V)))).setIfInBounds 15 (nG (U (Z r 0 V)))).setIfInBounds 16 (nG (U (Z r 6 V)))).setIfInBounds 17 (.map (U bn))).setIfInBounds 18 (nG (U (Z g 0 V)))).setIfInBounds 19 (G nm)).setIfInBounds 20 (nJ #[nI #[Y nN x.i,G x.nm,G x.tx,Y X x.k,Y X x.z,u x.ou x.nu x.cu,Y X x.tl],nH b])).setIfInBounds 13 (nJ #[nI #[Y nN x.i,G x.nm,G x.tx,Y X x.k,Y X x.z,u x.ou x.nu x.cu,Y X x.tl],nH b])).setIfInBounds 21 (nI #[Y nN x.i,G x.nm,G x.tx,Y X x.k,Y X x.z,u x.ou x.nu x.cu,Y X x.tl])).setIfInBounds 22 (nH b)).setIfInBounds 6 (nG (U (Z k 0 V)))).setIfInBounds 7 (nH b))} w):
  (kT id Ig.toArray R).wp jy Q a0 aa:=by
 refine oF 13 59 (a9h g r bn bi c L nm tx li oi ni ci w0 k b x) nV hsz nV (.inl rfl) nV ?_ ?_ ?_;.exact q9
 .refine sM λA av=> ?_
  clear hI0 ae hsz;replace ht0:=H ht0;replace ht3:=H ht3;replace hl:=H hl;replace h0:=H h0;dsimp+instances only[Ig,cO,cL,cR,cB,Tryz.f36];simp only[jY,kJ,rZ];refine⟨?_,?_,?_,?_,?_,?_,?_,?_,?_,?_,?_,?_,?_,trivial⟩<;>(intro D vs a w am hI hd E af C J;subst av;dsimp+instances only[Ig,cO,cL,cR,cB,Tryz.f36]);have aC:=(C 0 nT).trans ht0.out;rotate_left;have ay:=fe C hI.val E 14 0;rotate_left;have az:=fe C hI.val E 15 1;rotate_left;have ag:=fe C hI.val E 16 2;simp only[Ce]at ag;have c0:=hI.oU.b.rg.rg.c6;rotate_left;have e3:=(C 3 nT).trans ht3.out;rotate_left;have ah:=fe C hI.val E 18 4;simp only[Ce]at ah;have c0:=hI.oU.b.ms.c0;rotate_left;have hl:=hl.out;have ai:=fe C hI.val E 17 3;have aj:=fe C hI.val E 19 5;simp only[Ce]at ai aj;have q:=hl w hI.oU.b.rg;rotate_left;have aA:=fe C hI.val E 20 6;rotate_left;have ak:=fe C hI.val E 13 7;rotate_left;have ak:=fe C hI.val E 13 7;rotate_left
  .have I:=hI.oU
   have d11:=af 11 nT nV;rw[hd,d11]at I;have aD:w.heap.size=k:=by simpa using I.sz
   go_simp;refine J (nG (U (Z k 0 V))) _ _ rfl ⟨?_,vM hI.val⟩;rw[oH,nZ D (show 11≠10 by decide),d11];exact I.made
  .have h0:=h0.out
   have ax:=fe C hI.val E 6 10;have au:=fe C hI.val E 21 8;simp only[Ce]at ax au;have d10:=E 10 nT nV;have I:=hI.oU;rw[d10,hd]at I;have hB:=I.bk rfl;obtain⟨⟨z0,aF,aG,z3,z4,z5,aH⟩,aI,f1,f2,f3,f4,aJ,aK⟩:=qI hB;go_simp;rw[BP];refine J ku _ _ rfl ⟨?_,vM hI.val⟩;rw[nZ D (show 10≠11 by decide),d10,oH];exact I.put h0
  have aB:=fe C hI.val E 22 9;rotate_left
  all_goals
   try simp only[Ce]at*
   go_simp;exact J _ _ _ rfl ⟨hI.oU,vM hI.val⟩
 .intro D vs w N hI
  have E:=hI.oU;rw[N 10 nT]at E;rw[N 11 nT]at E;have q:=ae vs w E;rw[pE hI.val N];dsimp+instances only[Ig,cO,cL,cR,cB,Tryz.f36];exact q8
end
noncomputable def Ih:List lJ:=cO (cL (cR (cR (cR (cR (cB Tryz.f36))))))
section
variable (g r k:Nat)(c:oO)(x:RC)(nm tx:An)(li:Bool)(oi:Option kW)(ni ci:Nat)(w0:M)(fn:FuncId)(T:An)(er:Int)
def yJ:Nat->jC
 |0=> nG (U (Z r 0 V))
 |1=> nG (U (Z r 0 V))
 |2=> nG (U (Z r 8 V))
 |3=> nG (U (Z r 8 V))
 |4=> .func (.func fn) #[nI #[Y X c.dep,Y X c.pq]] #[]
 |5=> nG (U (Z k 3 V))
 |6=> nI #[Y X x.k,Y X x.z,u x.ou x.nu x.cu,Y X x.tl]
 |7=> nG (U (Z g 1 V))
 |8=> nI #[G tx,nH li,u oi ni ci]
 |9=> nJ #[G T,Y X er]
 |10=> nJ #[G T,Y X er]
 |11=> G T
 |12=> Y X er
 |13=> G T
 |14=> Y X er
 |_=>ku
structure a0U(D:Nat->Bool)(vs:Nat->jC)(w:M):Prop where
 oU:Vr g k #[G nm,G tx,nH li,u oi ni ci] x w0 w
 val:∀j,(R)=R->D j=R->vs j=yJ g r k c x tx li oi ni ci fn T er j
variable {g r k c x nm tx li oi ni ci w0 fn T er}
def a0V{D:Nat->Bool}{vs:Nat->jC}{w w':M}(h:a0U g r k c x nm tx li oi ni ci w0 fn T er D vs w){i:Nat}(hi:True)(A:Vr g k #[G nm,G tx,nH li,u oi ni ci] x w0 w->Vr g k #[G nm,G tx,nH li,u oi ni ci] x w0 w'):a0U g r k c x nm tx li oi ni ci w0 fn T er (Aw D i) (Ay vs i (yJ g r k c x tx li oi ni ci fn T er i)) w':=by
 refine⟨?_,vM h.val⟩;exact A h.oU
def a4t{id:Nat}{Q:Exit->Act->M->Prop}{I:M}(ht0:a0.tmps.getD 0 ku=nG (U (Z r 0 V)))(Ko:∀W,Vr g k #[G nm,G tx,nH li,u oi ni ci] x w0 W->W.cell? (Z r 8 V)=U (.func (.func fn) #[nI #[Y X c.dep,Y X c.pq]] #[]))(BR:a0.tmps.getD 6 ku=nG (U (Z k 0 V)))(ht3:a0.tmps.getD 3 ku=nG (U (Z g 0 V)))(hput:∀W,Vr g k #[G nm,G tx,nH li,u oi ni ci] x w0 W->jG jy fn #[nI #[Y X c.dep,Y X c.pq],nI #[Y X x.k,Y X x.z,u x.ou x.nu x.cu,Y X x.tl],nI #[G tx,nH li,u oi ni ci]] W (qi T er W))(hcf:∀a b d W,lL jy (callFunc fn #[a,b,d]) W=.ok (.enter fn #[a,b,d]) W)(hsz:a0.tmps.size=59)(hI0:∀vs:Nat->jC,(λw=>Vr g k #[G nm,G tx,nH li,u oi ni ci] x w0 w) I.drew)(J:∀(vs:Nat->jC) (w:M),Vr g k #[G nm,G tx,nH li,u oi ni ci] x w0 w->Q .normal {a0 with tmps:=(((((((((((((((a0.tmps.setIfInBounds 27 (nG (U (Z r 0 V)))).setIfInBounds 28 (nG (U (Z r 0 V)))).setIfInBounds 29 (nG (U (Z r 8 V)))).setIfInBounds 30 (nG (U (Z r 8 V)))).setIfInBounds 31 (.func (.func fn) #[nI #[Y X c.dep,Y X c.pq]] #[])).setIfInBounds 32 (nG (U (Z k 3 V)))).setIfInBounds 33 (nI #[Y X x.k,Y X x.z,u x.ou x.nu x.cu,Y X x.tl])).setIfInBounds 34 (nG (U (Z g 1 V)))).setIfInBounds 35 (nI #[G tx,nH li,u oi ni ci])).setIfInBounds 36 (nJ #[G T,Y X er])).setIfInBounds 26 (nJ #[G T,Y X er])).setIfInBounds 37 (G T)).setIfInBounds 38 (Y X er)).setIfInBounds 8 (G T)).setIfInBounds 9 (Y X er))} w):
  (kT id Ih.toArray R).wp jy Q a0 I:=by
 refine oF 15 59 (a0U g r k c x nm tx li oi ni ci w0 fn T er) nV hsz nV (.inl rfl) nV ?_ ?_ ?_;.exact q9
 .refine sM λA ak=> ?_
  clear hI0 J hsz;replace ht0:=H ht0;replace Ko:=H Ko;replace BR:=H BR;replace ht3:=H ht3;replace hput:=H hput;replace hcf:=H hcf;dsimp+instances only[Ih,cO,cL,cR,cB,Tryz.f36];simp only[jY,kJ,rZ];refine⟨?_,?_,?_,?_,?_,?_,?_,?_,?_,?_,?_,?_,?_,?_,?_,trivial⟩<;>(intro D vs a w am hI hd E ax C N;subst ak;dsimp+instances only[Ih,cO,cL,cR,cB,Tryz.f36]);have aF:=(C 0 nT).trans ht0.out;rotate_left;have ay:=fe C hI.val E 27 0;rotate_left;have az:=fe C hI.val E 28 1;rotate_left;have aA:=fe C hI.val E 29 2;rotate_left;have Ko:=Ko.out;have aa:=fe C hI.val E 30 3;simp only[yJ]at aa;have c0:=Ko w hI.oU;rotate_left;have aG:=(C 6 nT).trans BR.out;rotate_left;have ae:=fe C hI.val E 32 5;simp only[yJ]at ae;obtain⟨⟨c0,c1,c2,c3,c4,c5,c6⟩,_⟩:=qI hI.oU.rw_;rotate_left;have e3:=(C 3 nT).trans ht3.out;rotate_left;have af:=fe C hI.val E 34 7;simp only[yJ]at af;have hB:=hI.oU.ms;have c1:=hB.c1;have c2:=hB.c2;have c3:=hB.c3;clear hB;rotate_left
  .have hput:=hput.out
   have hcf:=hcf.out;have ag:=fe C hI.val E 31 4;have ah:=fe C hI.val E 33 6;have ai:=fe C hI.val E 35 8;simp only[yJ]at ag ah ai;have au:=hput w hI.oU;clear hput;rw[AC (by rfl)];go_simp;refine au.mono ?_;rintro e aH ⟨rfl,hb⟩;exact N (yJ g r k c x tx li oi ni ci fn T er 9) _ _ rfl (a0V hI (i:=9) nT λh=>h.up hb)
  have aB:=fe C hI.val E 36 9;rotate_left;have aj:=fe C hI.val E 26 10;rotate_left;have aj:=fe C hI.val E 26 10;rotate_left;have aC:=fe C hI.val E 37 11;rotate_left;have aD:=fe C hI.val E 38 12;rotate_left
  all_goals
   try simp only[yJ]at*
   go_simp;exact N _ _ _ rfl ⟨hI.oU,vM hI.val⟩
 .intro D vs w av hI
  have E:=hI.oU;have q:=J vs w E;rw[pE hI.val av];dsimp+instances only[Ih,cO,cL,cR,cB,Tryz.f36];exact q8
end
def AA(c:oO)(o:Option Row)(T:An)(er:Nat):vS×Nat:=match o with
 |none=>(⟨0,⟨#[]⟩,⟨#[]⟩⟩,11)
 |some x=>if er≠0 then(⟨0,⟨#[]⟩,⟨#[]⟩⟩,er)else if c.fmt=1 then(⟨0,x.name,T⟩,0)else(⟨x.id,⟨#[]⟩,T⟩,0)
def CQ(c:oO):FuncId:=if c.fmt=1 then 85 else 83
def a0W(c:oO):∀a b d W,lL jy (callFunc (CQ c) #[a,b,d]) W=.ok (.enter (CQ c) #[a,b,d]) W:=by
 unfold CQ;split<;>exact λ_ _ _ _=>rfl
def a0X(c:oO):Jt c=.func (.func (CQ c)) #[nI #[Y X c.dep,Y X c.pq]] #[]:=by
 unfold Jt CQ;split<;>rfl
def Td(r bn bi:Nat)(c:oO)(L:List oV)(nm tx:An)(li:Bool)(oi:Option kW)(ni ci:Nat)(T:An)(er:Nat)(w:M)(h:qG r bn bi c L w)(hn:nm.size<=jN)(hput:∀x,(L.find? λx=>At (x.r.name=nm))=U x->∀W,jD w.heap.size w W->jG jy (CQ c) #[nI #[Y X c.dep,Y X c.pq],nI #[Y X x.r.ty.lab.kind,Y X x.r.ty.lab.size,u x.ou x.r.ty.sub.length x.cu,Y X x.r.ty.lab.tail],nI #[G tx,nH li,u oi ni ci]] W (qi T er W)):
  jG jy 36 #[nG (U (Z r 0 V)),nI #[G nm,G tx,nH li,u oi ni ci]] w λe w'=>e=nK (nJ #[nI #[Y nN (AA c ((L.find? λx=>At (x.r.name=nm)).map λx=>x.r) T er).1.id,G (AA c ((L.find? λx=>At (x.r.name=nm)).map λx=>x.r) T er).1.name,G (AA c ((L.find? λx=>At (x.r.name=nm)).map λx=>x.r) T er).1.body],Y X (AA c ((L.find? λx=>At (x.r.name=nm)).map λx=>x.r) T er).2])/\jD w.heap.size w w':=by
 obtain⟨g,hg⟩:=og w.heap.size;have aX:=h.lt3;have aG:jI (∀W,(w.alloc (nL #[G nm,G tx,nH li,u oi ni ci] Az)).alloc (nL #[Y nN 0,G ⟨#[]⟩,G ⟨#[]⟩] rq)=W->EnB g r bn bi c L #[G nm,G tx,nH li,u oi ni ci] w W/\W.heap.size=g+2):=H λW af=>by
  subst af;have aa:=(jE w.heap.size w).alloc (jB _) (nL #[G nm,G tx,nH li,u oi ni ci] Az);have a2:=aa.alloc nX (nL #[Y nN 0,G ⟨#[]⟩,G ⟨#[]⟩] rq);have aN:=nU.new (w.alloc (nL #[G nm,G tx,nH li,u oi ni ci] Az)) #[Y nN 0,G ⟨#[]⟩,G ⟨#[]⟩] rq;rw[show(w.alloc (nL #[G nm,G tx,nH li,u oi ni ci] Az)).heap.size=g+1 by simp[hg]]at aN;exact⟨⟨h.below a2,(hg▸nU.new w _ _:nU _ g _ _).alloc _,aN,hg▸a2,hg,K⟩,by simp[hg]⟩
 have aA:jI (∀W,qG r bn bi c L W->_):=H λW af=>af.look nm hn
 have aI:=H h;obtain⟨aJ,au,ag⟩:=zm L λx=>At (x.r.name=nm)
 rw[au]at aA;unfold RC.cs at aA;obtain⟨o,ho⟩:=og ((L.find? λx=>At (x.r.name=nm)));rw[ho]at aA hput ag|-;have aK:=H hput;have aY:=H ag;have aO:=H (a0W c);have aP:=H (a0X c);obtain⟨E,aL⟩:=og (AA c (o.map λx=>x.r) T er);have aC:=H aL;rw[aL];obtain⟨⟨Kn,av,ax⟩,ay⟩:=E;rw[hg];dsimp only;clear h hn hput ho au ag aL aX;go_in;go_upto_region 3 with fail;obtain⟨hI,aQ⟩:=aG.out _ rfl;generalize (w.alloc _).alloc _=w1 at*;have aB:=H (jF hI aQ);clear aG hI aQ;refine a4s (g:=g) (r:=r) (bn:=bn) (bi:=bi) (c:=c) (L:=L) (nm:=nm) (tx:=tx) (li:=li) (oi:=oi) (ni:=ni) (ci:=ci) (w0:=w) (k:=g+2) (b:=o.isSome) (x:=aJ) (ht0:=by rfl) (ht3:=by rfl) (hl:=aA.out) (h0:=aI.out) (hsz:=by rfl) (hI0:=λ_=>⟨aB.1.below (oM w1),by simpa using aB.2,(λh=>by cases h),K⟩) ?_;intro vs ah hF;have I:=H (jF hF.b (jF (hF.bk rfl:nU ah (g+2) aJ.cs Hr) (show ah.heap.size=g+3 by simpa using hF.sz)));clear hF aB aA;simp only[jH,jQ,jR];obtain⟨aR,f1,f2⟩:=I.1.rs.f3;have z0:=I.1.rs.cell 0;have aD:=I.1.rs.cell 1;have aF:=I.1.rs.cell 2;simp only[zf3,jV,jS,jT]at z0 aD aF;cases o with
 |none=>
  have J:jI (Kn=0/\av=⟨#[]⟩/\ax=⟨#[]⟩/\ay=11):=H (by have:=aC.out;simp only[AA,Option.map]at this;injection this with a b;injection a with aa a2 a3;exact⟨aa.symm,a2.symm,a3.symm,b.symm⟩);go_wp2_with fail;have N:nU (((ah.setCell (Z (g+1) 0 V) (Y nN 0)).setCell (Z (g+1) 1 V) (G ⟨#[]⟩)).setCell (Z (g+1) 2 V) (G ⟨#[]⟩)) (g+1) #[Y nN 0,G ⟨#[]⟩,G ⟨#[]⟩] rq:=((I.1.rs.set 0 _).set 1 _).set 2 _;obtain⟨ai,aj,ak⟩:=N.a3;have A:jD g w (((ah.setCell (Z (g+1) 0 V) (Y nN 0)).setCell (Z (g+1) 1 V) (G ⟨#[]⟩)).setCell (Z (g+1) 2 V) (G ⟨#[]⟩)):=((I.1.ql.setCell (p:=(Z (g+1) 0 V)) (kR g) _).setCell (p:=(Z (g+1) 1 V)) (kR g) _).setCell (p:=(Z (g+1) 2 V)) (kR g) _;generalize ((ah.setCell (Z (g+1) 0 V) _).setCell (Z (g+1) 1 V) _).setCell (Z (g+1) 2 V) _=aM at*;refine jO (v:=nJ #[nI #[Y nN 0,G ⟨#[]⟩,G ⟨#[]⟩],Y X 11]) (by simp[kF,Tryz.results36,go_sem,ai,aj,ak]) rfl ⟨?_,A⟩;obtain⟨rfl,rfl,rfl,rfl⟩:=J.out;rfl
 |some x=>
  have au:aJ=x.rc:=aY.out;subst au;have Ko:∀W,Vr g (g+2) #[G nm,G tx,nH li,u oi ni ci] x.rc w W->W.cell? (Z r 8 V)=U (.func (.func (CQ c)) #[nI #[Y X c.dep,Y X c.pq]] #[]):=λW af=>by
   have hB:=(aI.below (hg.symm▸af.ql)).rg.cell 8;rw[<-aP.out];exact hB
  have aS:=H Ko;clear Ko;go_upto_region 6 with fail;have aT:Vr g (g+2) #[G nm,G tx,nH li,u oi ni ci] x.rc w ah.drew:=Vr.up ⟨I.1.ql,I.1.ms,I.1.rs,I.2.1⟩ (oM ah);have aH:=H (λ(W:M) (af:Vr g (g+2) #[G nm,G tx,nH li,u oi ni ci] x.rc w W)=>aK.out x rfl W (hg.symm▸af.ql));refine a4t (g:=g) (r:=r) (k:=g+2) (c:=c) (x:=x.rc) (nm:=nm) (tx:=tx) (li:=li) (oi:=oi) (ni:=ni) (ci:=ci) (w0:=w) (fn:=CQ c) (T:=T) (er:=er) (ht0:=by rfl) (BR:=by rfl) (ht3:=by rfl) (Ko:=aS.out) (hput:=aH.out) (hcf:=aO.out) (hsz:=by rfl) (hI0:=λ_=>aT) ?_;intro bB ae aU;have C:=H aU;clear aU aT I aH aR f1 f2 z0 aD aF;simp only[jH,jQ,jR];obtain⟨aR,f1,f2⟩:=C.rs.f3;have z0:=C.rs.cell 0;have aD:=C.rs.cell 1;have aF:=C.rs.cell 2;have c0:=(aI.below (hg.symm▸C.ql)).rg.cell 0;obtain⟨⟨aV,aW,y2,aZ,bg,bq,bu⟩,_⟩:=qI C.rw_;simp only[zf3,jV,jS,jT]at z0 aD aF c0;unfold oV.rc at aV aW y2;dsimp only at aV aW y2;clear aZ bg bq bu;by_cases he:er=0
  .have bz:((er:Int) !=0)=O:=by simp[he]
   by_cases az:c.fmt=1
   .have bA:(c.fmt==1)=R:=by simp[az]
    have J:jI (Kn=0/\av=x.r.name/\ax=T/\ay=0):=H (by have:=aC.out;simp only[AA,Option.map]at this;rw[As (by simp[he]),AC az]at this;injection this with a b;injection a with aa a2 a3;exact⟨aa.symm,a2.symm,a3.symm,b.symm⟩);clear az;go_wp2_with fail;have N:nU (((ae.setCell (Z (g+1) 0 V) (Y nN 0)).setCell (Z (g+1) 1 V) (G x.r.name)).setCell (Z (g+1) 2 V) (G T)) (g+1) #[Y nN 0,G x.r.name,G T] rq:=((C.rs.set 0 _).set 1 _).set 2 _;obtain⟨ai,aj,ak⟩:=N.a3;have A:jD g w (((ae.setCell (Z (g+1) 0 V) (Y nN 0)).setCell (Z (g+1) 1 V) (G x.r.name)).setCell (Z (g+1) 2 V) (G T)):=((C.ql.setCell (p:=(Z (g+1) 0 V)) (kR g) _).setCell (p:=(Z (g+1) 1 V)) (kR g) _).setCell (p:=(Z (g+1) 2 V)) (kR g) _;generalize ((ae.setCell (Z (g+1) 0 V) _).setCell (Z (g+1) 1 V) _).setCell (Z (g+1) 2 V) _=aM at*;refine jO (v:=nJ #[nI #[Y nN 0,G x.r.name,G T],Y X 0]) (by simp[kF,Tryz.results36,go_sem,ai,aj,ak]) rfl ⟨?_,A⟩;obtain⟨rfl,rfl,rfl,rfl⟩:=J.out;rfl
   .have bA:(c.fmt==1)=O:=by simp[az]
    have J:jI (Kn=x.r.id/\av=⟨#[]⟩/\ax=T/\ay=0):=H (by have:=aC.out;simp only[AA,Option.map]at this;rw[As (by simp[he]),As az]at this;injection this with a b;injection a with aa a2 a3;exact⟨aa.symm,a2.symm,a3.symm,b.symm⟩);clear az;go_wp2_with fail;have N:nU (((ae.setCell (Z (g+1) 0 V) (Y nN x.r.id)).setCell (Z (g+1) 1 V) (G ⟨#[]⟩)).setCell (Z (g+1) 2 V) (G T)) (g+1) #[Y nN x.r.id,G ⟨#[]⟩,G T] rq:=((C.rs.set 0 _).set 1 _).set 2 _;obtain⟨ai,aj,ak⟩:=N.a3;have A:jD g w (((ae.setCell (Z (g+1) 0 V) (Y nN x.r.id)).setCell (Z (g+1) 1 V) (G ⟨#[]⟩)).setCell (Z (g+1) 2 V) (G T)):=((C.ql.setCell (p:=(Z (g+1) 0 V)) (kR g) _).setCell (p:=(Z (g+1) 1 V)) (kR g) _).setCell (p:=(Z (g+1) 2 V)) (kR g) _;generalize ((ae.setCell (Z (g+1) 0 V) _).setCell (Z (g+1) 1 V) _).setCell (Z (g+1) 2 V) _=aM at*;refine jO (v:=nJ #[nI #[Y nN x.r.id,G ⟨#[]⟩,G T],Y X 0]) (by simp[kF,Tryz.results36,go_sem,ai,aj,ak]) rfl ⟨?_,A⟩;obtain⟨rfl,rfl,rfl,rfl⟩:=J.out;rfl
  .have bz:((er:Int) !=0)=R:=nY
   have J:jI (Kn=0/\av=⟨#[]⟩/\ax=⟨#[]⟩/\ay=er):=H (by have:=aC.out;simp only[AA,Option.map]at this;rw[AC he]at this;injection this with a b;injection a with aa a2 a3;exact⟨aa.symm,a2.symm,a3.symm,b.symm⟩);go_wp2_with fail;have N:nU (((ae.setCell (Z (g+1) 0 V) (Y nN 0)).setCell (Z (g+1) 1 V) (G ⟨#[]⟩)).setCell (Z (g+1) 2 V) (G ⟨#[]⟩)) (g+1) #[Y nN 0,G ⟨#[]⟩,G ⟨#[]⟩] rq:=((C.rs.set 0 _).set 1 _).set 2 _;obtain⟨ai,aj,ak⟩:=N.a3;have A:jD g w (((ae.setCell (Z (g+1) 0 V) (Y nN 0)).setCell (Z (g+1) 1 V) (G ⟨#[]⟩)).setCell (Z (g+1) 2 V) (G ⟨#[]⟩)):=((C.ql.setCell (p:=(Z (g+1) 0 V)) (kR g) _).setCell (p:=(Z (g+1) 1 V)) (kR g) _).setCell (p:=(Z (g+1) 2 V)) (kR g) _;generalize ((ae.setCell (Z (g+1) 0 V) _).setCell (Z (g+1) 1 V) _).setCell (Z (g+1) 2 V) _=aM at*;refine jO (v:=nJ #[nI #[Y nN 0,G ⟨#[]⟩,G ⟨#[]⟩],Y X er]) (by simp[kF,Tryz.results36,go_sem,ai,aj,ak]) rfl ⟨?_,A⟩;obtain⟨rfl,rfl,rfl,rfl⟩:=J.out;rfl
end
section
open Go.RowKit
def Br{t e s:jX}(T:qj P t e s){rest:List lJ}{Q:Exit->Act->M->Prop}(I:o.guard=V)(x y:Operand)(ho:o.op=.call {callee:=.builtin .append,args:=#[x,y],argTypes:=#[t,t]})(B:Nat)(v:jC)(l:List Ax)(b:Ax)(w:M)(cs:Array jC)(J:cs.toList=oh [b])(ai:a.eval x=v)(E:oI w B e v l)(hy:a.eval y=u (U (Z w.heap.size 0 V)) 1 1)(hlen:l.length+1<=140737488355328)(hB:B<=w.heap.size)(h:∀v' w',oI w' B e v' (l++[b])->w.grownBy w' v.ownBlock->(v'.ownBlock=v.ownBlock\/∃g,v'.ownBlock=U g/\w.heap.size<=g)->wpList P ops Q rest (a.put o.dst v') w'):
  wpList P ops Q (o::rest) a (w.alloc (nL cs e)):=by
 obtain⟨aj,hi,N,aa,ae⟩:=info_parts T.hi;have af:=(jE w.heap.size w).alloc (jB _) (nL cs e);have ag:=nU.new w cs e
 refine wpList_append_lies _ I x y t ho B e aj (Y .u8 0) 1 1 T.ht hi N aa ae rfl nT v l.length (oh l) ai (World.ownsRow.alloc E _)
  (Z w.heap.size 0 V) 1 1 (oh [b]) hy nX ?_ (sH _) nT xe K nY _ rfl ?_
 .intro j ao ak
  have e1:((Z w.heap.size 0 V):kW).add j=(Z w.heap.size j V):=GQ;rw[e1,ag.cell,<-ak,<-J,Array.getElem?_toList]
 .intro g cap w' au A C av
  refine h _ w' ?_ ⟨A.os,A.tape,A.output,by have:=A.size;simp at this;omega,λc hc ah=>(A.block c nY ah).trans (af.block c hc)⟩ ?_
  .show w'.ownsRow B e 1 _ (l++[b]).length (oh (l++[b]))
   rw[jK,pI];exact au
  .rcases C with C|C
   .exact .inl C.symm
   .exact .inr ⟨g,rfl,by rw[C];simp⟩
def Qq{t e s:jX}(T:qj P t e s){rest:List lJ}{Q:Exit->Act->M->Prop}(C:o.guard=V)(x y:Operand)(ho:o.op=.call {callee:=.builtin .append,args:=#[x,y],argTypes:=#[t,s]})(B:Nat)(v:jC)(l:List Ax)(S:An)(w:M)(N:a.eval x=v)(A:oI w B e v l)(hy:a.eval y=G S)(hlen:l.length+S.size<=140737488355328)(hB:B<=w.heap.size)(h:∀v' w',oI w' B e v' (l++S.data.toList)->w.grownBy w' v.ownBlock->wpList P ops Q rest (a.put o.dst v') w'):
  wpList P ops Q (o::rest) a w:=by
 obtain⟨aa,hi,E,I,J⟩:=info_parts T.hi;refine Lib.wpList_append_own_string _ C x y t s ho B e aa T.ht T.hs hi E I J v l.length (oh l) N A S hy xe K hB ?_;intro v' w' ae af _;refine h v' w' ?_ af;have e1:mD S=oh S.data.toList:=by simp[mD,oh]
 show w'.ownsRow B e 1 v' (l++S.data.toList).length (oh (l++S.data.toList));rw[jK,pI,<-e1];have e2:S.data.toList.length=S.size:=nX;rw[e2];exact ae
def JR(b n B:Nat)(v:jC)(l:List Ax)(w:M)(hb:b=128\/b=192)(hn:n<=1000000)(J:oI w B 5 v l)(hl:l.length<=1000000)(hB:B<=w.heap.size):
  jG jy 201 #[v,Y X b,Y X n] w λe w'=>∃v',e=nK v'/\oI w' B 5 v' (l++hdr b n)/\w.grownBy w' v.ownBlock:=by
 have aB:b<=192:=K;by_cases c:n<=55
 .have ae:jI (hdr b n=[jU (b+n)]):=H (by unfold hdr;rw[AC c])
  have aC:b+n<=255:=K;go_in;go_wp2_with (at_builtin;go_loud (refine Br Cr rfl _ _ rfl B v l (jU (b+n)) w _ (yZ (n:=b+n) K K) rfl J rfl K hB ?_);intro v' w' E A C;have N:=H (jF E A);clear E A C);go_returns;exact⟨_,rfl,by rw[ae.out];exact N.1,N.2⟩
 .have c0:=H (Lr n w K)
  have ay:=AX 3 n (mi hn nT);have ae:jI (hdr b n=jU (b+55+(AB n).length)::(AB n).reverse):=H (by unfold hdr;rw[As c]);obtain⟨S,af⟩:∃S:An,S=⟨(AB n).reverse.toArray⟩:=⟨_,rfl⟩;have ah:S.size=(AB n).length:=by rw[af,size_mk];simp
  rw[<-af]at c0;have ai:S.data.toList=(AB n).reverse:=by rw[af]
  rw[<-ah,<-ai]at ae;have aD:S.size<=3:=K;have ax:=H J;clear af ah ai J ay;go_in;go_wp2_with fail;refine c0.mono ?_;rintro e w2 ⟨rfl,I⟩;have ag:=H (ax.below I);have aj:B<=w2.heap.size:=jM hB I.size;have az:=H I;clear I
  go_wp2_with (first
   |(at_builtin;refine Br Cr rfl _ _ rfl B v l (jU (b+55+S.size)) w2 _ (yZ (n:=b+55+S.size) K K) rfl ag rfl K aj ?_;intro v' w' E A C;have N:=H (jF E (jF A C));have aA:=jM aj A.size;clear E A C)
   |(at_builtin;refine Qq Cr rfl _ _ rfl B v' (l++[jU (b+55+S.size)]) S w' rfl N.1 rfl nY aA ?_;intro v2 w3 E A;have ak:=H (jF E A);clear E A))
  go_returns;refine⟨_,rfl,?_,?_⟩
  .rw[ae.out]
   have:=ak.1;rwa [kX]at this
  .obtain⟨E,A,C⟩:=N.out
   have aa:=ak.2;have h0:=az.out;refine⟨aa.os.trans (A.os.trans h0.os),aa.tape.trans (A.tape.trans h0.tape),aa.output.trans (A.output.trans h0.output),jM h0.size (jM A.size aa.size),λc hc au=> ?_⟩;have av:c<w2.heap.size:=jZ hc h0.size;rw[aa.block c (jZ av A.size) ?_,A.block c av au,h0.block c hc];intro e;rcases C with C|⟨g,C,aF⟩
   .exact au (by rw[e,C])
   .rw[C]at e;cases e;omega
def KP{t e s ty:jX}(T:qj P t e s)(w:M)(B:Nat)(v:jC)(l:List Ax)(S:An)(A:oI w B e v l)(hlen:l.length+S.size<=140737488355328):
  ∃v' w',(Builtin.append_ #[t,s] ty #[v,G S]).run P w=.ok v' w'/\FrV w v v':=by
 obtain⟨ae,hi,N,C,aa⟩:=info_parts T.hi;rcases A.2 with⟨rfl,h0⟩|⟨g,cap,ag,rfl,aj,hg,ai,af,hsz,htake⟩
 .by_cases af:S.size=0
  .refine⟨u V 0 0,w,?_,λb hb=>by cases hb⟩
   have ah:=Lib.run_firstCells_string (P:=P) w 1 S;rw[af]at ah;simp[Builtin.append_,run_underlying T.ht,run_underlying T.hs,sizeOf,typeInfo,hi,C,Builtin.lenOf,af,ah]
  .have E:=run_append_nil_string (P:=P) w t s ty e ae (Y .u8 0) T.ht T.hs hi N S K K (by rw[aa];omega)
   exact⟨_,_,E,λb hb=> .inr (by cases hb;exact jB _)⟩
 .by_cases I:l.length+S.size<=cap
  .have E:=Lib.run_append_room_string (P:=P) w t s ty e ae T.ht T.hs hi C g l.length cap ag hg S I K
   exact⟨_,_,E,λb hb=> .inl hb⟩
  .have J:∀j ao,(oh l)[j]? =U ao->w.cell? (((Z g 0 V):kW).add j)=U ao:=World.ownsRow.cells A (g:=g) rfl
   have E:=Lib.run_append_grow_string (P:=P) w t s ty e ae (Y .u8 0) T.ht T.hs hi N (Z g 0 V) l.length cap (oh l) (by rw[C];simp) J S K K (by rw[aa];exact growslice_fits K K);exact⟨_,_,E,λb hb=> .inr (by cases hb;exact jB _)⟩
def NJ{t e s:jX}(T:qj P t e s){rest:List lJ}{Q:Exit->Act->M->Prop}(E:o.guard=V)(x y:Operand)(ho:o.op=.call {callee:=.builtin .append,args:=#[x,y],argTypes:=#[t,s]})(v:jC)(l:List Ax)(S:An)(w:M)(ae:a.eval x=v)(A:oI w 0 e v l)(hy:a.eval y=G S)(hlen:l.length+S.size<=140737488355328)(h:∀v' w',oI w' 0 e v' (l++S.data.toList)->w.grownBy w' v.ownBlock->FrV w v v'->wpList P ops Q rest (a.put o.dst v') w'):
  wpList P ops Q (o::rest) a w:=by
 obtain⟨af,hi,I,J,N⟩:=info_parts T.hi;refine wpList_plain E λam ag=> ?_
 obtain⟨v',w',aa,ah,ai,_⟩:=Lib.run_append_own_string (P:=P) w 0 t s o.type e af T.ht T.hs hi I J N v l.length (oh l) A S xe K (ko _);obtain⟨v2,w2,C,aj⟩:=KP (ty:=o.type) T w 0 v l S A hlen;rw[aa]at C;cases C;unfold Oper.wp execOp;simp only[ho,resolve,invoke,builtin,Sem.run_bind,Sem.run_pure,Result.andThen_ok,List.map_toArray,mf,ng,ae,hy,aa];refine ag _ _ (h v' w' ?_ ai aj);have e1:mD S=oh S.data.toList:=by simp[mD,oh]
 show w'.ownsRow 0 e 1 v' (l++S.data.toList).length (oh (l++S.data.toList));rw[jK,pI,<-e1];have e2:S.data.toList.length=S.size:=nX;rw[e2];exact ah
def sO(c:oO)(rows:List Row)(mb:Nat)(buf:List Ax)(nd fa:Int)(ch:An):List G8×List Ax×Int×Int:=
 if fa≠0 then([],buf,nd,fa)
 else if(((buf++ch.data.toList).length:Nat):Int)<nd then([],buf++ch.data.toList,nd,fa)
 else(λar:ZA=>(ar.told,(buf++ch.data.toList).drop ar.at_,if ar.err=2 then(CK c ((⟨(buf++ch.data.toList).toArray⟩:An).extract ar.at_ (⟨(buf++ch.data.toList).toArray⟩:An).size):Int)else nd,if ar.err=2 then fa else(ar.err:Int)))
  (wP c rows ⟨(buf++ch.data.toList).toArray⟩ ((buf++ch.data.toList).length+1) 0 (U (mb,((MS.new 9223372036854775807).take ch.size).1)))
def Ac(w:M)(F:Nat->Prop)(r sb:Nat)(buf:List Ax)(nd fa:Int):Prop:=∃bv la tt se,nU w sb (GG r bv nd fa la tt se) LJ/\oI w 0 xz bv buf/\F sb/\∀b,bv.ownBlock=U b->F b
structure a9i(c:oO)(rows:List Row)(F:Nat->Prop)(r sb mb:Nat)(buf:List Ax)(nd fa:Int)(ch:An)(w:M)(lv:jC)(Lm:List CJ)(w':M):Prop where
 own:qf w' (λd=>w.heap.size<=d) lv Lm
 told:Lm.map (λy=>y.m)=(sO c rows mb buf nd fa ch).1
 ses:Ac w' (λb=>F b\/w.heap.size<=b) r sb (sO c rows mb buf nd fa ch).2.1 (sO c rows mb buf nd fa ch).2.2.1 (sO c rows mb buf nd fa ch).2.2.2
 kp:rF F w w'
 ap:∃Q:Nat->Prop,qf w' Q lv Lm/\(∀d,Q d->w.heap.size<=d)/\Ac w' (λb=>(F b\/w.heap.size<=b)/\¬Q b) r sb (sO c rows mb buf nd fa ch).2.1 (sO c rows mb buf nd fa ch).2.2.1 (sO c rows mb buf nd fa ch).2.2.2
structure Ao(w0:M)(F:Nat->Prop)(sb r:Nat)(bv:jC)(buf:List Ax)(nd fa la tt se:Int)(W:M):Prop where
 ss:nU W sb (GG r bv nd fa la tt se) LJ
 ob:oI W 0 xz bv buf
 bw:rF F w0 W
 lt:F sb/\sb<w0.heap.size
 fr:∀b,bv.ownBlock=U b->F b\/w0.heap.size<=b
section
variable {w0:M}{F:Nat->Prop}{sb r:Nat}{bv bv2:jC}{buf a9j:List Ax}{nd fa la tt se:Int}{W W':M}
def Ao.below(h:Ao w0 F sb r bv buf nd fa la tt se W)(hb:jD W.heap.size W W'):Ao w0 F sb r bv buf nd fa la tt se W':=
 ⟨Below.blk hb h.ss h.ss.lt,h.ob.kp (rF.of (F:=λ_=>False) hb) (λ_ _ h=>h),h.bw.trans (rF.of (F:=F) hb) (λ_ _ k=>k),h.lt,h.fr⟩
def Ao.ne(h:Ao w0 F sb r bv buf nd fa la tt se W):∀b,bv.ownBlock=U b->b≠sb:=λb hb=>JL h.ob hb h.ss
def Ao.kp(h:Ao w0 F sb r bv buf nd fa la tt se W)(i:Nat)(v:jC):oI (W.setCell (Z sb i V) v) 0 xz bv buf:=
 h.ob.kp (rF.set (F:=λd=>d=sb) (p:=(Z sb i V)) (rF.refl _ W) (λ_=>rfl) v) λb hb e=>h.ne b hb e
def Ao.bwp(h:Ao w0 F sb r bv buf nd fa la tt se W)(i:Nat)(v:jC):rF F w0 (W.setCell (Z sb i V) v):=h.bw.set (p:=(Z sb i V)) (λ_=>h.lt.1) v
def Ao.qM(h:Ao w0 F sb r bv buf nd fa la tt se W)(x:Int):Ao w0 F sb r bv buf nd fa x tt se (W.setCell (Z sb 4 V) (Y X x)):=⟨h.ss.set 4 _,h.kp 4 _,h.bwp 4 _,h.lt,h.fr⟩
def Ao.b0I(h:Ao w0 F sb r bv buf nd fa la tt se W)(x:Int):Ao w0 F sb r bv buf nd fa la x se (W.setCell (Z sb 5 V) (Y X x)):=⟨h.ss.set 5 _,h.kp 5 _,h.bwp 5 _,h.lt,h.fr⟩
def Ao.grow(h:Ao w0 F sb r bv buf nd fa la tt se W)(hg:W.grownBy W' bv.ownBlock)(ho:oI W' 0 xz bv2 a9j)(C:FrV W bv bv2):Ao w0 F sb r bv2 a9j nd fa la tt se (W'.setCell (Z sb 1 V) bv2):=by
 have A:=pO h.ss hg h.ne;refine⟨A.set 1 _,ho.kp (rF.set (F:=λd=>d=sb) (p:=(Z sb 1 V)) (rF.refl _ W') (λ_=>rfl) bv2) (λb hb e=>JL ho hb A e),(h.bw.trans (rF.grown (F:=λd=>bv.ownBlock=U d) hg λ_ e=>e) (λc hc E=>(h.fr c E).resolve_right K)).set (p:=(Z sb 1 V)) (λ_=>h.lt.1) bv2,h.lt,λb hb=> ?_⟩;rcases C b hb with e|e
 .exact h.fr b e
 .exact .inr (jM h.bw.size e)
def Ao.upd(h:Ao w0 F sb r bv buf nd fa la tt se W){b:Nat}(A:pX b W W')(ho:∀d,bv.ownBlock=U d->d≠b)(hG:w0.heap.size<=b):Ao w0 F sb r bv buf nd fa la tt se W':=by
 have k:rF (λd=>d=b) W W':=rF.mono (rF.of2 (F:=λd=>d=b) (b:=b) (q:=b) ⟨A.os,A.tape,A.output,A.size,λk hk E _=>A.block k hk λe=>E (mg e)⟩ (λ_=>rfl) (λ_=>rfl)) λ_ _ h=>h
 exact⟨k.blk h.ss (by show sb≠b;have:=h.lt.2;omega),h.ob.kp k ho,h.bw.trans k (λc hc C=>by have C:c=b:=C;omega),h.lt,h.fr⟩
end
def Qr(c:oO)(rows:List Row)(s:An):∀(n p:Nat)(mt:Option (Nat×MS)),oQ (wP c rows s n p mt).mt=oQ mt
 |0,p,mt=>rfl
 |n+1,p,mt=>by
  have h:=Fy c rows (s.extract p s.size) mt;rcases hs:ru c rows (s.extract p s.size) mt with⟨ar,m2⟩
  rw[hs]at h;cases ar with
  |error er=>rw[Bq c rows s n p mt hs];exact h
  |ok y=>rw[zt c rows s n p mt hs];exact(Qr c rows s n _ m2).trans h
def a7k{c:oO}{rows:List Row}{F:Nat->Prop}{r sb mb:Nat}{buf A:List Ax}{nd:Int}{ch:An}{w w5 J:M}{C:MS}{aa:Option kW}{ae:Nat}{la tt se:Int}{e:Ending}(h:z8 0 sb r mb c rows C aa ae A nd 0 la tt se w5 e J)(ak:buf++ch.data.toList=A)(au:((MS.new 9223372036854775807).take ch.size).1=C)(hI:Ao w F sb r (u aa A.length ae) A nd 0 la tt se w5)(av:IsM w5 mb C)(aC:w.heap.size<=mb):
  ∃(oa:Option kW) (cap:Nat) (Lm:List CJ) (af:jC) (b6:List Ax) (ag ah:Int) (I:MS),e=nK (u oa Lm.length cap)/\Ao w F sb r af b6 ag ah la tt se J/\IsM J mb I/\qf J (λd=>w.heap.size<=d/\af.ownBlock≠U d) (u oa Lm.length cap) Lm/\sO c rows mb buf nd 0 ch=(Lm.map (λy=>y.m),b6,ag,ah):=by
 unfold sO;rw[As nX,ak,au];unfold z8 at h;by_cases ai:(A.length:Int)<nd
 .rw[AC ai]at h|-
  obtain⟨rfl,hb⟩:=h;exact⟨V,0,[],_,A,nd,0,C,rfl,hI.below hb,Below.blk hb av av.lt,qf.nil _ _,rfl⟩
 .rw[As ai]at h|-
  obtain⟨lv,T,rfl,hk⟩:=h;have hrow:=Qr c rows ⟨A.toArray⟩ (A.length+1) 0 (U (mb,C));generalize wP c rows ⟨A.toArray⟩ (A.length+1) 0 (U (mb,C))=ar at*;obtain⟨Lm,⟨oa,cap,rfl⟩,aj,N⟩:=hk.msgs;obtain⟨bo',bc',ax,ay,aD,az⟩:=hk.ses;obtain⟨told,at_,err,mt⟩:=ar;obtain⟨I,rfl⟩:∃I,mt=U (mb,I):=by
   cases mt with
   |none=>cases hrow
   |some q=>obtain⟨aF,aA⟩:=q;cases hrow;exact⟨aA,rfl⟩
  have aB:=hI.bw.size;have hlt:=hI.lt;refine⟨oa,cap,Lm,_,_,_,_,I,rfl,⟨ax,ay,hI.bw.trans hk.kp (λd hd E=> ?_),hlt,λb hb=> ?_⟩,hk.mt.1,qf.keep aj (jB _) (λ_ _ _=>rfl) (λd _ hd=>⟨by have hd:w5.heap.size<=d/\d<T:=hd;omega,λe=>by
   have hd:w5.heap.size<=d/\d<T:=hd;rcases az d e with e|e
   .have:=(oI.blk hI.ob d e).2;omega
   .omega⟩),?_⟩
  .rcases E with E|E|E
   .exact E▸hlt.1
   .omega
   .exact(hI.fr d E).resolve_right K
  .rcases az b hb with e|e
   .exact hI.fr b e
   .exact .inr (jM aB (jM hk.wt e))
  .rw[N]
noncomputable def NK:List lJ:=cO (cL (cL (cR (cL (cR (cR (cR (cB Tryz.f13))))))))
section
variable (w0:M)(F:Nat->Prop)(sb r:Nat)(bv:jC)(buf:List Ax)(nd fa la tt se:Int)(Bs:M->Prop)
def Te:Nat->jC
 |0=> nG (U (Z sb 0 V))
 |1=> nG (U (Z sb 0 V))
 |2=> nG (U (Z sb 3 V))
 |3=> Y X fa
 |4=> u V 0 0
 |5=> Y X fa
 |_=>ku
structure b0J(D:Nat->Bool)(vs:Nat->jC)(w:M):Prop where
 oU:Ao w0 F sb r bv buf nd fa la tt se w/\Bs w
 val:∀j,(R)=R->D j=R->vs j=Te sb fa j
variable {w0 F sb r bv buf nd fa la tt se Bs}
def a7l{id:Nat}{Q:Exit->Act->M->Prop}{I:M}(ht0:a0.tmps.getD 0 ku=nG (U (Z sb 0 V)))(hsz:a0.tmps.size=58)(hI0:∀vs:Nat->jC,(λw=>Ao w0 F sb r bv buf nd fa la tt se w/\Bs w) I.drew)(J:∀(vs:Nat->jC) (w:M),Ao w0 F sb r bv buf nd fa la tt se w/\Bs w->Q .normal {a0 with tmps:=((((((a0.tmps.setIfInBounds 18 (nG (U (Z sb 0 V)))).setIfInBounds 19 (nG (U (Z sb 0 V)))).setIfInBounds 20 (nG (U (Z sb 3 V)))).setIfInBounds 21 (Y X fa)).setIfInBounds 4 (u V 0 0)).setIfInBounds 5 (Y X fa))} w):
  (kT id NK.toArray R).wp jy Q a0 I:=by
 refine oF 6 58 (b0J w0 F sb r bv buf nd fa la tt se Bs) nV hsz nV (.inl rfl) nV ?_ ?_ ?_;.exact q9
 .refine sM λA aa=> ?_
  clear hI0 J hsz;replace ht0:=H ht0;dsimp+instances only[NK,cO,cL,cR,cB,Tryz.f13];simp only[jY,kJ,rZ];refine⟨?_,?_,?_,?_,?_,?_,trivial⟩<;>(intro D vs a w am hI hd E ag C ae;subst aa;dsimp+instances only[NK,cO,cL,cR,cB,Tryz.f13]);have ak:=(C 0 nT).trans ht0.out;rotate_left;have ah:=fe C hI.val E 18 0;rotate_left;have ai:=fe C hI.val E 19 1;rotate_left;have N:=fe C hI.val E 20 2;simp only[Te]at N;have hB:=hI.oU.1.ss;have c0:=hB.cell 3;simp only[GG,jV,jS,jT]at c0;clear hB;rotate_left;rotate_left;have aj:=fe C hI.val E 21 3;rotate_left
  all_goals
   try simp only[Te]at*
   go_simp;exact ae _ _ _ rfl ⟨hI.oU,vM hI.val⟩
 .intro D vs w af hI
  have E:=hI.oU;have q:=J vs w E;rw[pE hI.val af];dsimp+instances only[NK,cO,cL,cR,cB,Tryz.f13];exact q8
end
noncomputable def Ii:List lJ:=cO (cL (cR (cR (cR (cR (cR (cR (cR (cR (cR (cR (cB Tryz.f13))))))))))))
section
variable (w0:M)(F:Nat->Prop)(sb r:Nat)(bv:jC)(buf:List Ax)(nd fa la tt se:Int)(Bs:M->Prop)(lv:jC)
def NL:Nat->jC
 |0=>lv
 |1=> nG (U (Z sb 0 V))
 |2=> nG (U (Z sb 0 V))
 |3=> nG (U (Z sb 3 V))
 |4=> Y X fa
 |5=>lv
 |6=> Y X fa
 |_=>ku
structure a9k(D:Nat->Bool)(vs:Nat->jC)(w:M):Prop where
 oU:Ao w0 F sb r bv buf nd fa la tt se w/\Bs w
 val:∀j,(R)=R->D j=R->vs j=NL sb fa lv j
variable {w0 F sb r bv buf nd fa la tt se Bs lv}
def a4u{id:Nat}{Q:Exit->Act->M->Prop}{I:M}(GA:a0.tmps.getD 7 ku=lv)(ht0:a0.tmps.getD 0 ku=nG (U (Z sb 0 V)))(hsz:a0.tmps.size=58)(hI0:∀vs:Nat->jC,(λw=>Ao w0 F sb r bv buf nd fa la tt se w/\Bs w) I.drew)(J:∀(vs:Nat->jC) (w:M),Ao w0 F sb r bv buf nd fa la tt se w/\Bs w->Q .normal {a0 with tmps:=(((((((a0.tmps.setIfInBounds 53 (lv)).setIfInBounds 54 (nG (U (Z sb 0 V)))).setIfInBounds 55 (nG (U (Z sb 0 V)))).setIfInBounds 56 (nG (U (Z sb 3 V)))).setIfInBounds 57 (Y X fa)).setIfInBounds 4 (lv)).setIfInBounds 5 (Y X fa))} w):
  (kT id Ii.toArray R).wp jy Q a0 I:=by
 refine oF 7 58 (a9k w0 F sb r bv buf nd fa la tt se Bs lv) nV hsz nV (.inl rfl) nV ?_ ?_ ?_;.exact q9
 .refine sM λA aa=> ?_
  clear hI0 J hsz;replace GA:=H GA;replace ht0:=H ht0;dsimp+instances only[Ii,cO,cL,cR,cB,Tryz.f13];simp only[jY,kJ,rZ];refine⟨?_,?_,?_,?_,?_,?_,?_,trivial⟩<;>(intro D vs a w am hI hd E ag C ae;subst aa;dsimp+instances only[Ii,cO,cL,cR,cB,Tryz.f13]);have au:=(C 7 nT).trans GA.out;rotate_left;have av:=(C 0 nT).trans ht0.out;rotate_left;have ah:=fe C hI.val E 54 1;rotate_left;have ai:=fe C hI.val E 55 2;rotate_left;have N:=fe C hI.val E 56 3;simp only[NL]at N;have hB:=hI.oU.1.ss;have c0:=hB.cell 3;simp only[GG,jV,jS,jT]at c0;clear hB;rotate_left;have aj:=fe C hI.val E 53 0;rotate_left;have ak:=fe C hI.val E 57 4;rotate_left
  all_goals
   try simp only[NL]at*
   go_simp;exact ae _ _ _ rfl ⟨hI.oU,vM hI.val⟩
 .intro D vs w af hI
  have E:=hI.oU;have q:=J vs w E;rw[pE hI.val af];dsimp+instances only[Ii,cO,cL,cR,cB,Tryz.f13];exact q8
end
def FN(F:Nat->Prop)(sb r bn bi:Nat)(c:oO)(L:List oV)(buf:List Ax)(nd fa:Int)(ch:An)(w:M)(hc:oL c=R)(aS:c.wf)(hs:Ac w F r sb buf nd fa)(hlen:buf.length+ch.size<=100000)(aC:∀W,rF F w W->qG r bn bi c L W/\qK W/\xW W):
  jG jy 13 #[nG (U (Z sb 0 V)),G ch] w λe w'=>∃mb lv Lm,e=nK (nJ #[lv,Y X (sO c (L.map λx=>x.r) mb buf nd fa ch).2.2.2])/\a9i c (L.map λx=>x.r) F r sb mb buf nd fa ch w lv Lm w':=by
 obtain⟨bv,la,tt,se,af,aD,aT,aU⟩:=hs;obtain⟨bo,bc,rfl⟩:=oI.form aD;obtain⟨g,hg⟩:=og w.heap.size;have aQ:=H (show Ao w F sb r (u bo buf.length bc) buf nd fa la tt se w from⟨af,aD,rF.refl F w,⟨aT,af.lt⟩,λb hb=> .inl (aU b hb)⟩);have aF:=H aC;have bK:=H (jF hc aS);have bS:=H hlen;have c4:=af.cell 4;have c3:=af.cell 3;have f4:=af.free 4;simp only[GG,jV,jS,jT]at c3 c4;clear af aD aT aU hlen aC hc aS;by_cases ae:fa=0
 .have t0:(fa !=0)=O:=by simp[ae]
  have bF:=H ae;have I:=aQ.qM 0;go_in;go_upto_region 6 with fail;generalize w.setCell (Z sb 4 V) (Y X 0)=w1 at*;have au:=H I;clear I c4 c3 f4 aQ;have bL:=H (Rh 9223372036854775807 w1);go_wp2_with fail;refine bL.mono ?_;rintro e w2 ⟨rfl,N,ai,aG⟩;obtain⟨mb,aH⟩:=og w1.heap.size;rw[aH]at aG ai N|-;have bM:=H (IC mb (MS.new 9223372036854775807) ch.size w2 (MS.Ok.new _ nT) aG);have aj:jI (Ao w F sb r (u bo buf.length bc) buf nd fa 0 tt se w2/\mb<w2.heap.size/\0<=mb/\sb<mb/\w.heap.size<=mb/\∀b,(kI bo buf.length bc).ownBlock=U b->b<mb):=H (by
   have I:=au.out;have l:=I.lt;have cK:=I.bw.size;refine⟨I.below (aH.symm▸N),ai,K,K,K,λb hb=>aH▸(oI.blk I.ob b hb).2⟩)
  clear N ai aG au bL;go_wp2_with fail;refine bM.mono ?_;unfold a5m;rintro e w3 ⟨rfl,aV,ak⟩;obtain⟨aI,av⟩:=og (((MS.new 9223372036854775807).take ch.size).1);obtain⟨e4,aW⟩:=og (((MS.new 9223372036854775807).take ch.size).2);rw[av]at ak;rw[aW];have aX:=H av;have aY:jI aI.Ok:=H (av▸MS.Ok.take (MS.Ok.new _ nT) _);have E:jI (Ao w F sb r (u bo buf.length bc) buf nd fa 0 tt se w3/\IsM w3 mb aI):=H (by
   obtain⟨bT,a2,a3,a4,a5,a6⟩:=aj.out;exact⟨bT.upd aV (λd hd=>Nat.ne_of_lt (a6 d hd)) a5,ak⟩)
  clear av aW aV ak bM;have c1:=E.1.ss.cell 1;simp only[GG,jV,jS,jT]at c1;have bZ:=bS.out;have aJ:=E.1.ob;have aZ:ch.data.toList.length=ch.size:=kH;have f1:∀w',w3.grownBy w' (kI bo buf.length bc).ownBlock->∃cs,nU w' sb cs LJ:=λw' hg=>⟨_,pO E.1.ss hg E.1.ne⟩
  clear f1;go_upto_region 9 with(at_builtin;go_loud (refine NJ Cr rfl _ _ rfl (u bo buf.length bc) buf ch w3 rfl aJ rfl K ?_);intro v' w4 I aB bU;obtain⟨ax,ay,rfl⟩:=oI.form I;have ah:=H (jF I (jF aB bU));have f1:=(pO E.1.ss aB E.1.ne).free 1;have bN:=(pO E.1.ss aB E.1.ne).cell 1;simp only[GG,jV,jS,jT]at bN;clear I aB)
  have aa:buf.length+ch.size=(buf++ch.data.toList).length:=by rw[jK,aZ]
  rw[aa];have bG:=E.1.grow ah.2.1 ah.1 ah.2.2;have bg:IsM (w4.setCell (Z sb 1 V) (u ax (buf++ch.data.toList).length ay)) mb aI:=(pO E.2 ah.2.1 λd hd=>Nat.ne_of_lt (aj.2.2.2.2.2 d hd)).setOther (a:=(Z sb 1 V)) (by show mb≠sb;have:=aj.2.2.2.1;omega) _;generalize w4.setCell (Z sb 1 V) (u ax (buf++ch.data.toList).length ay)=w5 at*;obtain⟨bH,N⟩:=og (buf++ch.data.toList);have bI:bH.length<=100000:=by rw[<-N,<-aa];omega
  rw[N]at bG aa|-;have bq:=H N;have A:=H (jF bG bg);clear aa aJ aZ f1 bN c1 E ah N bG bg;have bu:∀d,(kI ax bH.length ay).ownBlock=U d->d≠sb/\d≠mb:=λd hd=>⟨A.1.ne d hd,λe=>by
   subst e;rcases A.1.ob.2 with⟨e,_⟩|⟨q,cap,cz,e,_,aK,_⟩
   .rw[e]at hd;cases hd
   .rw[e]at hd;cases hd
    have aB:w5.heap[q]? =U (nL aI.cs 119 (0,0)):=A.2;rw[aB]at aK;have:(119:jX)=xz:=by
     injection aK with e
     injection e
    exact absurd this nT⟩
  have bO:=H (a4i 0 sb r mb bn bi c L aI ax ay bH nd fa 0 tt se w5 bK.1 bK.2 A.1.ss A.1.ob ⟨A.2,aY.out⟩ bu ⟨by have:=aj.2.2.2.1;omega,ko _,ko _⟩ bI λW bV=>aF.out W (A.1.bw.trans bV λd hd ae=>by
   rcases ae with ae|ae|ae
   .exact ae▸A.1.lt.1
   .have:=aj.2.2.2.2.1;omega
   .exact(A.1.fr d ae).resolve_right K))
  clear bu;go_wp2_with fail;refine bO.mono ?_;rintro e aL hcut;have bP:=bF.out;subst bP;obtain⟨oa,cap,Lm,az,b6,bz,bA,ag,rfl,aM,bB,aN,aA⟩:=a7k hcut bq aX A.1 A.2 aj.2.2.2.2.1;have bW:=H (YG mb ag aL bB);have aO:=H (jF aM (jF aN aA));obtain⟨n,hn⟩:=og Lm.length;have bX:=H hn;rw[hn];have aP:=aM.qM ag.ta;have a4:=aM.ss.cell 4;have f4:=aM.ss.free 4;have a5:=aP.ss.cell 5;have bY:=aP.ss.free 5;simp only[GG,jV,jS,jT]at a4 a5;clear hcut aM bB aN aA bO A bq aX aY aj aF aP hn;go_wp2_with fail;refine bW.mono ?_;rintro e cZ ⟨rfl,rfl⟩;go_upto_region 12 with fail;have bQ:jI (∀tv,Ao w F sb r az b6 bz bA ag.ta tv se ((aL.setCell (Z sb 4 V) (Y X ag.ta)).setCell (Z sb 5 V) (Y X tv))/\qf ((aL.setCell (Z sb 4 V) (Y X ag.ta)).setCell (Z sb 5 V) (Y X tv)) (λd=>w.heap.size<=d/\az.ownBlock≠U d) (u oa n cap) Lm):=H λtv=>by
   have bR:=(aO.1.qM ag.ta).b0I tv;have hl:=bR.lt;refine⟨bR,qf.keep (bX.out▸aO.2.1) (by simp[j5]) (λd hd aK=> ?_) λ_ _ h=>h⟩;have aK:w.heap.size<=d:=aK.1;exact(jW _ (Z sb 5 V) _ d (by show d≠sb;omega)).trans (jW _ (Z sb 4 V) _ d (by show d≠sb;omega))
  generalize bC:(aL.setCell (Z sb 4 V) (Y X ag.ta)).setCell (Z sb 5 V) _=aR at*;obtain⟨tv,bD⟩:∃tv,(aL.setCell (Z sb 4 V) (Y X ag.ta)).setCell (Z sb 5 V) (Y X tv)=aR:=⟨_,bC⟩;have bJ:=bQ.out tv;rw[bD]at bJ;have bE:=H bJ;clear bJ bQ bC bD a4 f4 a5 bY;refine a4u (w0:=w) (F:=F) (sb:=sb) (r:=r) (bv:=az) (buf:=b6) (nd:=bz) (fa:=bA) (la:=ag.ta) (tt:=tv) (se:=se) (Bs:=λW=>qf W (λd=>w.heap.size<=d/\az.ownBlock≠U d) (u oa n cap) Lm) (lv:=u oa n cap) (ht0:=by rfl) (GA:=by rfl) (hsz:=by rfl) (hI0:=λ_=>⟨bE.1.below (oM aR),qf.keep bE.2 (oM aR).size (λd hd _=>(oM aR).block d hd) λ_ _ h=>h⟩) ?_;intro vs df hF;have C:=H hF;clear hF;simp only[jH,jQ,jR];go_wp2;try go_returns
  have KF:=aO.2.2;refine⟨mb,u oa n cap,Lm,by rw[KF];rfl,⟨qf.keep C.2 (jB _) (λ_ _ _=>rfl) λ_ _ h=>h.1,by rw[KF],?_,C.1.bw,_,C.2,λ_ h=>h.1,?_⟩⟩
  .rw[KF]
   exact⟨_,_,_,_,C.1.ss,C.1.ob,.inl C.1.lt.1,C.1.fr⟩
  .rw[KF]
   exact⟨_,_,_,_,C.1.ss,C.1.ob,⟨.inl C.1.lt.1,λh=>by have:=h.1;have:=C.1.lt.2;omega⟩,λb hb=>⟨C.1.fr b hb,λh=>h.2 hb⟩⟩
 .have t0:(fa !=0)=R:=by simp[ae]
  have bF:=H ae;have I:=aQ.qM 0;go_in;go_upto_region 5 with fail;generalize w.setCell (Z sb 4 V) (Y X 0)=w1 at*;have au:=H I;clear I c4 c3 f4 aQ;refine a7l (w0:=w) (F:=F) (sb:=sb) (r:=r) (bv:=u bo buf.length bc) (buf:=buf) (nd:=nd) (fa:=fa) (la:=0) (tt:=tt) (se:=se) (Bs:=λ_=>True) (ht0:=by rfl) (hsz:=by rfl) (hI0:=λ_=>⟨au.below (oM w1),trivial⟩) ?_;intro vs w2 hF;have J:=H hF.1;clear hF;simp only[jH,jQ,jR];go_wp2;try go_returns
  have hp:∀mb,sO c (L.map λx=>x.r) mb buf nd fa ch=([],buf,nd,fa):=λmb=>by unfold sO;rw[AC bF.out]
  refine⟨0,u V 0 0,[],by rw[hp];rfl,⟨qf.nil _ _,by rw[hp];rfl,?_,J.bw,λ_=>False,qf.nil _ _,λ_ h=>h.elim,?_⟩⟩
  .rw[hp]
   exact⟨_,_,_,_,J.ss,J.ob,.inl J.lt.1,J.fr⟩
  .rw[hp]
   exact⟨_,_,_,_,J.ss,J.ob,⟨.inl J.lt.1,λh=>h⟩,λb hb=>⟨J.fr b hb,λh=>h⟩⟩
def Ac.mono{w:M}{F F':Nat->Prop}{r sb:Nat}{buf:List Ax}{nd fa:Int}(h:Ac w F r sb buf nd fa)(hF:∀b,b<w.heap.size->F b->F' b):Ac w F' r sb buf nd fa:=by
 obtain⟨bv,la,tt,se,A,C,E,I⟩:=h;exact⟨bv,la,tt,se,A,C,hF _ A.lt E,λb hb=>hF b (oI.blk C b hb).2 (I b hb)⟩
def x9(w:M)(an r sb:Nat)(buf:List Ax)(nd fa:Int):Prop:=∃bv la tt se,nU w sb (GG r bv nd fa la tt se) LJ/\oI w an xz bv buf
def x9.f{w:M}{an r sb:Nat}{buf:List Ax}{nd fa:Int}(h:x9 w an r sb buf nd fa)(hG:an<=sb):Ac w (λb=>an<=b) r sb buf nd fa:=by
 obtain⟨bv,la,tt,se,C,A⟩:=h;exact⟨bv,la,tt,se,C,A.low (ko _),hG,λb hb=>(oI.blk A b hb).1⟩
def Ac.at_{w:M}{an r sb:Nat}{buf:List Ax}{nd fa:Int}(h:Ac w (λb=>an<=b) r sb buf nd fa):x9 w an r sb buf nd fa:=by
 obtain⟨bv,la,tt,se,E,A,_,I⟩:=h;exact⟨bv,la,tt,se,E,A.1,A.2.imp id λ⟨g,cap,C,e1,_,k⟩=>⟨g,cap,C,e1,I g (by rw[e1];rfl),k⟩⟩
structure Qs(c:oO)(rows:List Row)(an r sb mb:Nat)(buf:List Ax)(nd fa:Int)(ch:An)(w:M)(lv:jC)(Lm:List CJ)(w':M):Prop where
 own:qf w' (λd=>w.heap.size<=d) lv Lm
 told:Lm.map (λy=>y.m)=(sO c rows mb buf nd fa ch).1
 ses:x9 w' an r sb (sO c rows mb buf nd fa ch).2.1 (sO c rows mb buf nd fa ch).2.2.1 (sO c rows mb buf nd fa ch).2.2.2
 ql:jD an w w'
def a0Y(an sb r bn bi:Nat)(c:oO)(L:List oV)(buf:List Ax)(nd fa:Int)(ch:An)(w:M)(hc:oL c=R)(E:c.wf)(hs:x9 w an r sb buf nd fa)(hlt:an<=sb/\an<=w.heap.size)(hlen:buf.length+ch.size<=100000)(C:∀W,jD an w W->qG r bn bi c L W/\qK W/\xW W):
  jG jy 13 #[nG (U (Z sb 0 V)),G ch] w λe w'=>∃mb lv Lm,e=nK (nJ #[lv,Y X (sO c (L.map λx=>x.r) mb buf nd fa ch).2.2.2])/\Qs c (L.map λx=>x.r) an r sb mb buf nd fa ch w lv Lm w':=by
 have hb:∀W,rF (λb=>an<=b) w W->jD an w W:=λW k=>k.below (λc hc A=>by have A:an<=c:=A;omega) hlt.2
 refine(FN _ sb r bn bi c L buf nd fa ch w hc E (hs.f hlt.1) hlen λW I=>C W (hb W I)).mono ?_;rintro e w' ⟨mb,lv,Lm,he,J,N,aa,ae,_⟩;exact⟨mb,lv,Lm,he,J,N,(aa.mono λb _ A=>A.elim id λh=>jM hlt.2 h).at_,hb w' ae⟩
end
end Go.Proofs.YtamfcjmhnndbdaaGreatDoor


