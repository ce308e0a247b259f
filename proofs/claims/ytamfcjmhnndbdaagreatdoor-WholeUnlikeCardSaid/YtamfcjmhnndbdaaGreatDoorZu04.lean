/- Part 4 of the proof. -/
import Derived.Test.YtamfcjmhnndbdaaGreatDoorZu00
import Derived.Test.YtamfcjmhnndbdaaGreatDoorZu03
import Derived.Deep.RegionHeld3
import Derived.Laws.EntriesVeiled
import Derived.WalkSpells
import Derived.Deep.WholeRow
import Derived.OwnWalk
import Derived.Lib.Strings
import Derived.WalkLawsBesides
import Derived.Deep.CutBlock
import Derived.Deep.DeepCutAuto
open Go.Value renaming agg→nC,bool→nA,int→ng,pointer→nz,slice→nk,string→ny,tuple→nD,int→lT
open Go.Obj renaming cells→nG
open Go.IntKind renaming i64→nH,u32→nJ,u64→nI
open Go.Ending renaming returned→nE,returned→lH
open Go.Lib renaming hid→jH,extract_data→mY
open Go.Proofs.Tryz renaming prog→jI,underlying86→l8,underlying9→mR
open Go renaming World→jJ,Value→jP,Calls→jV,bodyPost_ret→j4,maxLen→j5,TypeId→ko,results→kK,wpAnyH_take→kU,wpAnyH_ready→lW,wpQuiet_nil→mJ
open List renaming setIfInBounds_toArray→jK,getElem?_cons_succ→jM,getElem?_cons_zero→jN,getElem?_toArray→jO,set_cons_zero→jQ,set_cons_succ→jR,length_append→jY,take_succ_cons→ky,length_cons→kD,take_zero→kQ,length_drop→kS,length_take→kY,replicate→lu,append_assoc→lD,range→l7,map_cons→mH,size_toArray→mP,cons_append→mU,drop_succ_cons→mX
open Nat renaming le_refl→jL,le_trans→kg,zero_le→kI,le_of_eq→mV
open Go.RowKit renaming Below→jS,Hid→jW,intOf→kW
open Go.RowKit.Below renaming refl→jT,heap_setCell→j6
open And renaming intro→jU
open UInt8 renaming ofNat→jZ
open ByteArray renaming size_extract→kz
open Go.Act renaming put→kE
open Or renaming inl→kL
open Go.Instr renaming index→kR,makeFunc→mG
open Array renaming length_toList→kV,replicate→lI
open Go.AllReadyH renaming cons→kZ,nil→lC
open Go.Lit renaming int→lJ
namespace Go.Proofs.YtamfcjmhnndbdaaGreatDoor
set_option linter.unusedVariables false
set_option linter.unusedSimpArgs false
set_option maxRecDepth 100000
set_option maxHeartbeats 8000000
variable {k b p:Nat}{w:jJ}{t:ko}{L:List UInt8}
section
open Go.RowKit Go.Shelf
attribute [local go_sem] Oper.semAt_some
theorem a2T(h:k<8):k=0\/k=1\/k=2\/k=3\/k=4\/k=5\/k=6\/k=7:=nK
theorem a2U(s t:S8)(h:k<8):(a0w s t k)[k]? =some (ng nJ ((s.get k).toNat:Int)):=by
 rcases a2T h with rfl|rfl|rfl|rfl|rfl|rfl|rfl|rfl<;>rfl
theorem a0x(s t:S8)(h:k<8):(a0w s t k).setIfInBounds k (ng nJ ((s.get k+t.get k).toNat:Int))=a0w s t (k+1):=by
 rcases a2T h with rfl|rfl|rfl|rfl|rfl|rfl|rfl|rfl<;>rfl
theorem a5C(T:S8)(h:k<8)(w:jJ):(kR 31 (nC #[ng nJ (T.a.toNat:Int),ng nJ (T.b.toNat:Int),ng nJ (T.c.toNat:Int),ng nJ (T.d.toNat:Int),ng nJ (T.e.toNat:Int),ng nJ (T.f.toNat:Int),ng nJ (T.g.toNat:Int),ng nJ (T.h.toNat:Int)]) (ng nH k)).run jI w=.ok (ng nJ ((T.get k).toNat:Int)) w:=by
 rcases a2T h with rfl|rfl|rfl|rfl|rfl|rfl|rfl|rfl<;>rfl
theorem Rw(st:S8)(s:ByteArray)(w:jJ)(hs:s.size=64):
  jV jI 254 #[nC st.cs,ny s] w λe w'=>e=nE (nC (Mx st s.data.toList).cs)/\jS w.heap.size w w':=by
 refine(callsIn_wide (n:=8)).1 ?_;refine callsIn_of_wp_marks Tryz.func254 rfl trivial ?_ rfl;simp only[Tryz.ntmps254,mP,kD,List.length_nil,Nat.reduceAdd,Nat.reduceSub,Array.replicate_succ,Array.replicate_zero,List.push_toArray,List.append_toArray,List.nil_append,mU];refine wpIn_wide.2 ?_;go_upto_region 1 with fail;obtain⟨b0,hb0⟩:=nT w.heap.size;refine uV (λW=>jS b0 w W/\W.heap.size=b0+2/\nO W b0 st.cs 31/\nO W (b0+1) (lI 8 (ng nJ 0)) 31) ?_ ?_
 .refine⟨((jT _ _).alloc nK _).alloc nQ _,by simp[hb0],(hb0▸nO.new w _ _).alloc _,?_⟩
  have:=nO.new (w.alloc (nG st.cs 31)) (lI 8 (ng nJ 0)) 31;rwa [World.size_alloc,hb0]at this
 rintro W ⟨aD,hsz,hst,Z⟩;have aM:=jH hsz;have df:=jH hb0;clear hsz;rw[hb0];clear hb0;go_upto_region 2 with fail;refine uV (λO=>jS b0 w O/\O.heap.size=b0+3/\nO O b0 st.cs 31/\nO O (b0+1) (lI 8 (ng nJ 0)) 31/\nO O (b0+2) #[.func (.func 272) #[] #[]] 302) ?_ ?_
 .have e:=aM.out
  refine⟨aD.alloc nK _,by simp[e],hst.alloc _,Z.alloc _,?_⟩;have:=nO.new W #[.func (.func 272) #[] #[]] 302;rwa [e]at this
 rw[aM.out];clear aM hst Z aD W;rintro W ⟨aD,hsz,hst,Z,bE⟩;refine IJ ?_;refine wp_region_held_drew (S:=λw'=>nO w' b0 st.cs 31) nM (nO.drew hst) (λA=> ?_);refine kU (i:=0) (oi:= ?oi0) (v:= ?v0) ?hi0 nM nM nM ?hQ0 (kL ⟨?hw0,?hy0⟩) A ?a5D;case hi0=>simp only[jO,jM,jN];rfl
 case hQ0=>exact λ_ _ _ h=>h
 case hw0=>rfl
 case hy0=>(intro w C;go_simp;try rfl)
 simp only[kE,jK,jQ,jR];refine kU (i:=1) (oi:= ?oi1) (v:= ?v1) ?hi1 nM nM nM ?hQ1 (kL ⟨?hw1,?hy1⟩) A ?a5E;case hi1=>simp only[jO,jM,jN];rfl
 case hQ1=>exact λ_ _ _ h=>h
 case hw1=>rfl
 case hy1=>(intro w C;have hc:w.cell? ⟨_,0,none⟩=some (ng nJ (st.a.toNat:Int)):=C.cell 0;go_simp;try rfl)
 simp only[kE,jK,jQ,jR];refine kU (i:=2) (oi:= ?oi2) (v:= ?v2) ?hi2 nM nM nM ?hQ2 (kL ⟨?hw2,?hy2⟩) A ?a5F;case hi2=>simp only[jO,jM,jN];rfl
 case hQ2=>exact λ_ _ _ h=>h
 case hw2=>rfl
 case hy2=>(intro w C;go_simp;try rfl)
 simp only[kE,jK,jQ,jR];refine kU (i:=3) (oi:= ?oi3) (v:= ?v3) ?hi3 nM nM nM ?hQ3 (kL ⟨?hw3,?hy3⟩) A ?a5G;case hi3=>simp only[jO,jM,jN];rfl
 case hQ3=>exact λ_ _ _ h=>h
 case hw3=>rfl
 case hy3=>(intro w C;have hc:w.cell? ⟨_,1,none⟩=some (ng nJ (st.b.toNat:Int)):=C.cell 1;go_simp;try rfl)
 simp only[kE,jK,jQ,jR];refine kU (i:=4) (oi:= ?oi4) (v:= ?v4) ?hi4 nM nM nM ?hQ4 (kL ⟨?hw4,?hy4⟩) A ?a5H;case hi4=>simp only[jO,jM,jN];rfl
 case hQ4=>exact λ_ _ _ h=>h
 case hw4=>rfl
 case hy4=>(intro w C;go_simp;try rfl)
 simp only[kE,jK,jQ,jR];refine kU (i:=5) (oi:= ?oi5) (v:= ?v5) ?hi5 nM nM nM ?hQ5 (kL ⟨?hw5,?hy5⟩) A ?a5I;case hi5=>simp only[jO,jM,jN];rfl
 case hQ5=>exact λ_ _ _ h=>h
 case hw5=>rfl
 case hy5=>(intro w C;have hc:w.cell? ⟨_,2,none⟩=some (ng nJ (st.c.toNat:Int)):=C.cell 2;go_simp;try rfl)
 simp only[kE,jK,jQ,jR];refine kU (i:=6) (oi:= ?oi6) (v:= ?v6) ?hi6 nM nM nM ?hQ6 (kL ⟨?hw6,?hy6⟩) A ?b3e;case hi6=>simp only[jO,jM,jN];rfl
 case hQ6=>exact λ_ _ _ h=>h
 case hw6=>rfl
 case hy6=>(intro w C;go_simp;try rfl)
 simp only[kE,jK,jQ,jR];refine kU (i:=7) (oi:= ?oi7) (v:= ?v7) ?hi7 nM nM nM ?hQ7 (kL ⟨?hw7,?hy7⟩) A ?b3f;case hi7=>simp only[jO,jM,jN];rfl
 case hQ7=>exact λ_ _ _ h=>h
 case hw7=>rfl
 case hy7=>(intro w C;have hc:w.cell? ⟨_,3,none⟩=some (ng nJ (st.d.toNat:Int)):=C.cell 3;go_simp;try rfl)
 simp only[kE,jK,jQ,jR];refine kU (i:=8) (oi:= ?oi8) (v:= ?v8) ?hi8 nM nM nM ?hQ8 (kL ⟨?hw8,?hy8⟩) A ?a5J;case hi8=>simp only[jO,jM,jN];rfl
 case hQ8=>exact λ_ _ _ h=>h
 case hw8=>rfl
 case hy8=>(intro w C;go_simp;try rfl)
 simp only[kE,jK,jQ,jR];refine kU (i:=9) (oi:= ?oi9) (v:= ?v9) ?hi9 nM nM nM ?hQ9 (kL ⟨?hw9,?hy9⟩) A ?b3h;case hi9=>simp only[jO,jM,jN];rfl
 case hQ9=>exact λ_ _ _ h=>h
 case hw9=>rfl
 case hy9=>(intro w C;have hc:w.cell? ⟨_,4,none⟩=some (ng nJ (st.e.toNat:Int)):=C.cell 4;go_simp;try rfl)
 simp only[kE,jK,jQ,jR];refine kU (i:=10) (oi:= ?a7T) (v:= ?v10) ?a2V nM nM nM ?a2W (kL ⟨?a2X,?a2Y⟩) A ?a2Z;case a2V=>simp only[jO,jM,jN];rfl
 case a2W=>exact λ_ _ _ h=>h
 case a2X=>rfl
 case a2Y=>(intro w C;go_simp;try rfl)
 simp only[kE,jK,jQ,jR];refine kU (i:=11) (oi:= ?a7U) (v:= ?v11) ?a3a nM nM nM ?a3b (kL ⟨?a3c,?a3d⟩) A ?a3e;case a3a=>simp only[jO,jM,jN];rfl
 case a3b=>exact λ_ _ _ h=>h
 case a3c=>rfl
 case a3d=>(intro w C;have hc:w.cell? ⟨_,5,none⟩=some (ng nJ (st.f.toNat:Int)):=C.cell 5;go_simp;try rfl)
 simp only[kE,jK,jQ,jR];refine kU (i:=12) (oi:= ?a5K) (v:= ?v12) ?Wt nM nM nM ?a7V (kL ⟨?a7W,?a7X⟩) A ?a7Y;case Wt=>simp only[jO,jM,jN];rfl
 case a7V=>exact λ_ _ _ h=>h
 case a7W=>rfl
 case a7X=>(intro w C;go_simp;try rfl)
 simp only[kE,jK,jQ,jR];refine kU (i:=13) (oi:= ?b4i) (v:= ?v13) ?a7Z nM nM nM ?a8a (kL ⟨?a8b,?a8c⟩) A ?a8d;case a7Z=>simp only[jO,jM,jN];rfl
 case a8a=>exact λ_ _ _ h=>h
 case a8b=>rfl
 case a8c=>(intro w C;have hc:w.cell? ⟨_,6,none⟩=some (ng nJ (st.g.toNat:Int)):=C.cell 6;go_simp;try rfl)
 simp only[kE,jK,jQ,jR];refine kU (i:=14) (oi:= ?b4j) (v:= ?v14) ?a8e nM nM nM ?a8f (kL ⟨?a8g,?a8h⟩) A ?a8i;case a8e=>simp only[jO,jM,jN];rfl
 case a8f=>exact λ_ _ _ h=>h
 case a8g=>rfl
 case a8h=>(intro w C;go_simp;try rfl)
 simp only[kE,jK,jQ,jR];refine kU (i:=15) (oi:= ?b4k) (v:= ?v15) ?a8j nM nM nM ?a8k (kL ⟨?a8l,?a8m⟩) A ?a8n;case a8j=>simp only[jO,jM,jN];rfl
 case a8k=>exact λ_ _ _ h=>h
 case a8l=>rfl
 case a8m=>(intro w C;have hc:w.cell? ⟨_,7,none⟩=some (ng nJ (st.h.toNat:Int)):=C.cell 7;go_simp;try rfl)
 simp only[kE,jK,jQ,jR]
 refine MJ (P:=jI) (T:=22) (z:=ng nJ 0) (H:=b0+3) (fuel:=8) (w0:=W.drew) [(16,6),(17,7),(18,8),(19,9),(20,10),(21,11),(22,12),(23,13)] nN (mV hsz.symm)
  (II nM (λeQ dst dh pos after w=>Ub eQ dst dh pos after w)) (Pq nM) (λw' h=>h.alloc _) ?_ 8 (λ_=>none) _ rfl A ⟨jT _ _,(λp hp b hb=>by cases hb),(λp hp q dw b hb=>by cases hb)⟩
 intro bs aY bF aN;simp only[pW,yK,FZ,kE,jK,jQ,jR];have U:a5A b0 bs:=by
  refine⟨λi j hi ak e=> ?_,λj ak=>(aN.blk (16+j,6+j) (Am j ak) _ rfl).1⟩;have:=aN.inj (16+i,6+i) (Am i hi) (16+j,6+j) (Am j ak) (bs (16+j)) (by rw[<-e]) rfl;omega
 have hI:vM b0 bs st.cs w (λ_=>0) aY:=by
  have aO:=aN.below;refine⟨aD.trans ?_,bF,Below.blk aO Z nK,Below.blk aO bE nK,λj ak=>(aN.blk (16+j,6+j) (Am j ak) _ rfl).2⟩;exact((jT b0 W).drew).trans (aO.mono nK)
 clear aN bF A hst Z bE aD hsz W;refine lW (rs:=[24]) nM nR ?_;refine kZ (o:= ?b4l) ?a8o (λK V=> ?_) lC;case a8o=>simp only[jO,jM,jN];rfl
 have I:=hI.v 0 nN;have hc:aY.cell? ⟨bs 16,0,none⟩=some (ng nJ _):=I.cell 0;have ah:aY.frozen? ⟨bs 16,0,none⟩=false:=I.free 0;clear I;have Y:=jH hI;clear hI;go_simp;have hI:=Y.set U 0 nN st.a.toNat;clear Y;refine V _ _ hI.st (λag=> ?_);clear V K hc ah;try simp only[kE,jK,jQ,jR]
 refine vL _ hI ?_;clear hI ag aY;intro bV hI;refine lW (rs:=[25]) nM nR ?_;refine kZ (o:= ?b4m) ?a8p (λK V=> ?_) lC;case a8p=>simp only[jO,jM,jN];rfl
 have I:=hI.v 1 nN;have hc:bV.cell? ⟨bs 17,0,none⟩=some (ng nJ _):=I.cell 0;have ah:bV.frozen? ⟨bs 17,0,none⟩=false:=I.free 0;clear I;have Y:=jH hI;clear hI;go_simp;have hI:=Y.set U 1 nN st.b.toNat;clear Y;refine V _ _ hI.st (λag=> ?_);clear V K hc ah;try simp only[kE,jK,jQ,jR]
 refine vL _ hI ?_;clear hI ag bV;intro O hI;refine lW (rs:=[26]) nM nR ?_;refine kZ (o:= ?b4n) ?a8q (λK V=> ?_) lC;case a8q=>simp only[jO,jM,jN];rfl
 have I:=hI.v 2 nN;have hc:O.cell? ⟨bs 18,0,none⟩=some (ng nJ _):=I.cell 0;have ah:O.frozen? ⟨bs 18,0,none⟩=false:=I.free 0;clear I;have Y:=jH hI;clear hI;go_simp;have hI:=Y.set U 2 nN st.c.toNat;clear Y;refine V _ _ hI.st (λag=> ?_);clear V K hc ah;try simp only[kE,jK,jQ,jR]
 refine vL _ hI ?_;clear hI ag O;intro W3 hI;refine lW (rs:=[27]) nM nR ?_;refine kZ (o:= ?b4o) ?hi27 (λK V=> ?_) lC;case hi27=>simp only[jO,jM,jN];rfl
 have I:=hI.v 3 nN;have hc:W3.cell? ⟨bs 19,0,none⟩=some (ng nJ _):=I.cell 0;have ah:W3.frozen? ⟨bs 19,0,none⟩=false:=I.free 0;clear I;have Y:=jH hI;clear hI;go_simp;have hI:=Y.set U 3 nN st.d.toNat;clear Y;refine V _ _ hI.st (λag=> ?_);clear V K hc ah;try simp only[kE,jK,jQ,jR]
 refine vL _ hI ?_;clear hI ag W3;intro bW hI;refine lW (rs:=[28]) nM nR ?_;refine kZ (o:= ?b4p) ?a8r (λK V=> ?_) lC;case a8r=>simp only[jO,jM,jN];rfl
 have I:=hI.v 4 nN;have hc:bW.cell? ⟨bs 20,0,none⟩=some (ng nJ _):=I.cell 0;have ah:bW.frozen? ⟨bs 20,0,none⟩=false:=I.free 0;clear I;have Y:=jH hI;clear hI;go_simp;have hI:=Y.set U 4 nN st.e.toNat;clear Y;refine V _ _ hI.st (λag=> ?_);clear V K hc ah;try simp only[kE,jK,jQ,jR]
 refine vL _ hI ?_;clear hI ag bW;intro bX hI;refine lW (rs:=[29]) nM nR ?_;refine kZ (o:= ?b4q) ?a8s (λK V=> ?_) lC;case a8s=>simp only[jO,jM,jN];rfl
 have I:=hI.v 5 nN;have hc:bX.cell? ⟨bs 21,0,none⟩=some (ng nJ _):=I.cell 0;have ah:bX.frozen? ⟨bs 21,0,none⟩=false:=I.free 0;clear I;have Y:=jH hI;clear hI;go_simp;have hI:=Y.set U 5 nN st.f.toNat;clear Y;refine V _ _ hI.st (λag=> ?_);clear V K hc ah;try simp only[kE,jK,jQ,jR]
 refine vL _ hI ?_;clear hI ag bX;intro bY hI;refine lW (rs:=[30]) nM nR ?_;refine kZ (o:= ?b4r) ?a8t (λK V=> ?_) lC;case a8t=>simp only[jO,jM,jN];rfl
 have I:=hI.v 6 nN;have hc:bY.cell? ⟨bs 22,0,none⟩=some (ng nJ _):=I.cell 0;have ah:bY.frozen? ⟨bs 22,0,none⟩=false:=I.free 0;clear I;have Y:=jH hI;clear hI;go_simp;have hI:=Y.set U 6 nN st.g.toNat;clear Y;refine V _ _ hI.st (λag=> ?_);clear V K hc ah;try simp only[kE,jK,jQ,jR]
 refine vL _ hI ?_;clear hI ag bY;intro bZ hI;refine lW (rs:=[31]) nM nR ?_;refine kZ (o:= ?b4s) ?a8u (λK V=> ?_) lC;case a8u=>simp only[jO,jM,jN];rfl
 have I:=hI.v 7 nN;have hc:bZ.cell? ⟨bs 23,0,none⟩=some (ng nJ _):=I.cell 0;have ah:bZ.frozen? ⟨bs 23,0,none⟩=false:=I.free 0;clear I;have Y:=jH hI;clear hI;go_simp;have hI:=Y.set U 7 nN st.h.toNat;clear Y;refine V _ _ hI.st (λag=> ?_);clear V K hc ah;try simp only[kE,jK,jQ,jR]
 refine vL _ hI ?_;clear hI ag bZ;intro dx hI;refine wpAnyH_done nM ?_ _;have hI:vM b0 bs st.cs w st.at_ dx:=hI.congr (λj ak=>by match j,ak with|0,_=>rfl|1,_=>rfl|2,_=>rfl|3,_=>rfl|4,_=>rfl|5,_=>rfl|6,_=>rfl|7,_=>rfl);have aB:=jH hI;clear hI;go_wp2_with fail;refine(Po s _).mono ?_;rintro e aZ ⟨Bs,rfl,bG,ai,qO⟩;obtain⟨E,dz⟩:=nT dx.heap.size;rw[dz]at bG ai;have hlt:=λj ak=>((aB.v j ak).lt)
 rw[dz]at hlt;have aF:vM b0 bs st.cs w st.at_ aZ:=aB.grown (E:=E) hlt (by have:=aB.cl.lt;omega) (row:=none) ⟨ai.os,ai.tape,ai.output,by have:=ai.size;omega,λi hi _=>ai.block i nK⟩ (λr h=>by cases h);have dA:b0+2<E:=by have:=aB.cl.lt;omega
 clear aB;unfold a5y;go_wp2_with fail;have aI:=Pp 7 Bs E s aZ hs bG qO;have aP:Mx st s.data.toList=a0u st (yJ s.data.toList st 64):=rfl;have bH:yJ s.data.toList st 0=st:=rfl;have bI:∀k,yJ s.data.toList st (k+1)=Wl (yJ s.data.toList st k) (kN k) (wS s.data.toList k):=λ_=>rfl
 have dB:E<=aZ.heap.size:=by have:=ai.size;omega
 clear qO hI ai;generalize yJ s.data.toList st=R at*;generalize wS s.data.toList=dC at*;have aF:=aF.congr (y:=(R 0).at_) (λj _=>by rw[bH]);clear bH;have dD:=jH aP;have dE:=jH bI;clear aP bI;refine wpIn_wide.1 (DT (n:=8) (E:=E) (N:=64) (encs:=Wq dC) (w0:=aZ) rfl nN (gf:=283) (lb:=#[nz (some ⟨Bs,0,none⟩)]) rfl trivial ?eg aI (jT _ _) (λk=>rfl) (λk W=>vM b0 bs st.cs w (R k).at_ W) ?hI aF ?Pm ?hdone);case eg=>intro args w';rfl
 case hI=>exact λk W fV row hk hg eT=>hk.grown (E:=E) hlt dA hg (λr e=>by have:=eT r e;omega)
 case Pm=>
  intro l k W hk hI;simp only[Wq,List.zip_toArray,List.zip_cons_cons,List.zip_nil_right,List.foldl_toArray,List.foldl_cons,List.foldl_nil,jK,jQ,jR]
  gi_wp2
  refine⟨trivial,λO aa=> ?_⟩;have aQ:=dE.out k;generalize dC k=wk at*;obtain⟨dF,aR⟩:=nT (R k);rw[aR]at aQ;have aa:vM b0 bs st.cs w dF.at_ O:=aa.congr (λj _=>by rw[aR]);clear aR;obtain⟨a,b,c,d,e,f,g,h⟩:=dF;have c0:O.cell? ⟨bs 16,0,none⟩=some (ng nJ (a.toNat:Int)):=(aa.v 0 nN).cell 0;have c1:O.cell? ⟨bs 17,0,none⟩=some (ng nJ (b.toNat:Int)):=(aa.v 1 nN).cell 0;have c2:O.cell? ⟨bs 18,0,none⟩=some (ng nJ (c.toNat:Int)):=(aa.v 2 nN).cell 0;have c3:O.cell? ⟨bs 19,0,none⟩=some (ng nJ (d.toNat:Int)):=(aa.v 3 nN).cell 0;have c4:O.cell? ⟨bs 20,0,none⟩=some (ng nJ (e.toNat:Int)):=(aa.v 4 nN).cell 0;have c5:O.cell? ⟨bs 21,0,none⟩=some (ng nJ (f.toNat:Int)):=(aa.v 5 nN).cell 0;have c6:O.cell? ⟨bs 22,0,none⟩=some (ng nJ (g.toNat:Int)):=(aa.v 6 nN).cell 0;have c7:O.cell? ⟨bs 23,0,none⟩=some (ng nJ (h.toNat:Int)):=(aa.v 7 nN).cell 0;have fZ:O.cell? ⟨b0+2,0,none⟩=some (.func (.func 272) #[] #[]):=aa.cl.cell 0;have aS:=jH aa;have dG:=jH aQ;have aj:=jH hlt;clear aa aQ hI aI aF hlt
  gi_upto_region 8 with(refine⟨trivial,?_⟩;skip)
  simp only[a5q,a5B,Jc];have dH:(e&&&f)^^^(~~~e&&&g)=(e&&&f)^^^(~~~e&&&g):=rfl;have dI:(a&&&b)^^^(a&&&c)^^^(b&&&c)=(a&&&b)^^^(a&&&c)^^^(b&&&c):=rfl;generalize aT:(e&&&f)^^^(~~~e&&&g)=ch;generalize aU:(a&&&b)^^^(a&&&c)^^^(b&&&c)=eU;have aT:=jH aT;have aU:=jH aU;clear dH dI;refine DU l nM nM nM ?hL ?_;case hL=>rintro⟨gm,w',dw⟩;exact absurd dw.1 (λe=>by cases e)
  repeat(go_big_quiet_step (first
   |(go_at_call 275;exact Calls.VS (Ga _ _ _ _ _ nN nN nN))
   |(go_at_call 272;exact Calls.quiet_of (Uc _ _ hk))))
  refine mJ ?_;intro bg
  gi_upto_region 9 with(refine⟨trivial,?_⟩;skip)
  have dJ:((((h.toNat:Int)+((TU e 6 11 25).toNat:Int)+((kN k).toNat:Int)+(wk.toNat:Int)) % 4294967296+(ch.toNat:Int)) % 4294967296)=((Mw ⟨a,b,c,d,e,f,g,h⟩ (kN k) wk).toNat:Int):=by
   unfold Mw;simp only;rw[aT.out,<-zD,<-zD,<-zD,<-zD];omega
  rw[dJ];generalize aV:Mw ⟨a,b,c,d,e,f,g,h⟩ (kN k) wk=P;have aV:=jH aV;clear dJ
  gi_upto_region 10 with(refine⟨trivial,CallsIn.mono (CallsIn.inRound l (callsIn_wide.2 (Ga a 2 13 22 _ nN nN nN))) ?_⟩;rintro en w' ⟨rfl,rfl⟩)
  have dK:((((TU a 2 13 22).toNat:Int)+(eU.toNat:Int)) % 4294967296)=((Ru ⟨a,b,c,d,e,f,g,h⟩).toNat:Int):=by
   unfold Ru;simp only;rw[aU.out,<-zD]
  rw[dK];generalize aW:Ru ⟨a,b,c,d,e,f,g,h⟩=bq;have aW:=jH aW;clear dK;have bJ:=jH (aS.drewN bg);have bK:KeepsFrom E O (O.drewN bg)/\LU E O (O.drewN bg):=⟨KeepsFrom.of_grownBy (row:=none) ⟨rfl,rfl,rfl,jL _,λ_ _ _=>rfl⟩ (λ_ h=>by cases h),LU.refl _ _⟩;have gp:O.frozen? ⟨bs 16,0,none⟩=false:=(aS.v 0 nN).free 0;have f1:O.frozen? ⟨bs 17,0,none⟩=false:=(aS.v 1 nN).free 0;repeat(first|gi_guarded|gi_step|gi_upon)
  generalize fH:O.drewN bg=eX at bJ bK⊢;have au:=bJ.set U 0 nN (((P.toNat:Int)+(bq.toNat:Int)) % 4294967296);have bL:=uk (E:=E) bK (b:=bs 16) (aj 0 nN) (ng nJ (((P.toNat:Int)+(bq.toNat:Int)) % 4294967296));generalize dL:eX.setCell ⟨bs 16,0,none⟩ (ng nJ (((P.toNat:Int)+(bq.toNat:Int)) % 4294967296))=bu at bL⊢;have au:vM b0 bs st.cs w _ bu:=dL▸au;have gq:bu.cell? ⟨bs 17,0,none⟩=some (ng nJ _):=(au.v 1 nN).cell 0;have f2:bu.frozen? ⟨bs 18,0,none⟩=false:=(au.v 2 nN).free 0;have dM:=jH au;clear au;go_simp;repeat(first|gi_guarded|gi_step|gi_upon)
  have av:=dM.set U 1 nN (a.toNat:Int);have bM:=uk (E:=E) bL (b:=bs 17) (aj 1 nN) (ng nJ (a.toNat:Int));generalize dN:bu.setCell ⟨bs 17,0,none⟩ (ng nJ (a.toNat:Int))=bz at bM⊢;have av:vM b0 bs st.cs w _ bz:=dN▸av;have gu:bz.cell? ⟨bs 18,0,none⟩=some (ng nJ _):=(av.v 2 nN).cell 0;have f3:bz.frozen? ⟨bs 19,0,none⟩=false:=(av.v 3 nN).free 0;have dO:=jH av;clear av;go_simp;repeat(first|gi_guarded|gi_step|gi_upon)
  have ax:=dO.set U 2 nN (b.toNat:Int);have bN:=uk (E:=E) bM (b:=bs 18) (aj 2 nN) (ng nJ (b.toNat:Int));generalize dP:bz.setCell ⟨bs 18,0,none⟩ (ng nJ (b.toNat:Int))=bA at bN⊢;have ax:vM b0 bs st.cs w _ bA:=dP▸ax;have gy:bA.cell? ⟨bs 19,0,none⟩=some (ng nJ _):=(ax.v 3 nN).cell 0;have f4:bA.frozen? ⟨bs 20,0,none⟩=false:=(ax.v 4 nN).free 0;have dQ:=jH ax;clear ax;go_simp;repeat(first|gi_guarded|gi_step|gi_upon)
  have ay:=dQ.set U 3 nN (c.toNat:Int);have bO:=uk (E:=E) bN (b:=bs 19) (aj 3 nN) (ng nJ (c.toNat:Int));generalize dR:bA.setCell ⟨bs 19,0,none⟩ (ng nJ (c.toNat:Int))=bB at bO⊢;have ay:vM b0 bs st.cs w _ bB:=dR▸ay;have gz:bB.cell? ⟨bs 20,0,none⟩=some (ng nJ _):=(ay.v 4 nN).cell 0;have gB:bB.frozen? ⟨bs 21,0,none⟩=false:=(ay.v 5 nN).free 0;have dS:=jH ay;clear ay;go_simp;repeat(first|gi_guarded|gi_step|gi_upon)
  have az:=dS.set U 4 nN (((d.toNat:Int)+(P.toNat:Int)) % 4294967296);have bP:=uk (E:=E) bO (b:=bs 20) (aj 4 nN) (ng nJ (((d.toNat:Int)+(P.toNat:Int)) % 4294967296));generalize dU:bB.setCell ⟨bs 20,0,none⟩ (ng nJ (((d.toNat:Int)+(P.toNat:Int)) % 4294967296))=bC at bP⊢;have az:vM b0 bs st.cs w _ bC:=dU▸az;have gD:bC.cell? ⟨bs 21,0,none⟩=some (ng nJ _):=(az.v 5 nN).cell 0;have gF:bC.frozen? ⟨bs 22,0,none⟩=false:=(az.v 6 nN).free 0;have dV:=jH az;clear az;go_simp;repeat(first|gi_guarded|gi_step|gi_upon)
  have aA:=dV.set U 5 nN (e.toNat:Int);have bQ:=uk (E:=E) bP (b:=bs 21) (aj 5 nN) (ng nJ (e.toNat:Int));generalize dW:bC.setCell ⟨bs 21,0,none⟩ (ng nJ (e.toNat:Int))=bD at bQ⊢;have aA:vM b0 bs st.cs w _ bD:=dW▸aA;have gG:bD.cell? ⟨bs 22,0,none⟩=some (ng nJ _):=(aA.v 6 nN).cell 0;have gH:bD.frozen? ⟨bs 23,0,none⟩=false:=(aA.v 7 nN).free 0;have dX:=jH aA;clear aA;go_simp;repeat(first|gi_guarded|gi_step|gi_upon)
  have aG:=dX.set U 6 nN (f.toNat:Int);have bR:=uk (E:=E) bQ (b:=bs 22) (aj 6 nN) (ng nJ (f.toNat:Int));generalize dY:bD.setCell ⟨bs 22,0,none⟩ (ng nJ (f.toNat:Int))=cz at bR⊢;have aG:vM b0 bs st.cs w _ cz:=dY▸aG;have gI:cz.cell? ⟨bs 23,0,none⟩=some (ng nJ _):=(aG.v 7 nN).cell 0;have dZ:=jH aG;clear aG;go_simp;repeat(first|gi_guarded|gi_step|gi_upon)
  have aJ:=dZ.set U 7 nN (g.toNat:Int);have aK:=uk (E:=E) bR (b:=bs 23) (aj 7 nN) (ng nJ (g.toNat:Int));generalize ed:cz.setCell ⟨bs 23,0,none⟩ (ng nJ (g.toNat:Int))=eY at aK⊢;have aJ:vM b0 bs st.cs w _ eY:=ed▸aJ;have ek:=jH aJ;clear aJ;refine⟨rfl,⟨aK.1.size,λi o hi=>aK.1.same i o (kg dB hi)⟩,aK.2,ek.congr (λj ak=> ?_)⟩;rw[dG.out];unfold Wl;rw[aV.out,aW.out]
  match j,ak with
  |0,_=>exact zD P bq
  |1,_=>rfl
  |2,_=>rfl
  |3,_=>rfl
  |4,_=>exact zD d P
  |5,_=>rfl
  |6,_=>rfl
  |7,_=>rfl
 case hdone=>
  intro D W gJ hI eu;obtain⟨T,cK⟩:=nT (R 64);have hI:vM b0 bs st.cs w T.at_ W:=hI.congr (λj _=>by rw[cK]);have cZ:=dD.out;rw[cK]at cZ;have c0:W.cell? ⟨bs 16,0,none⟩=some (ng nJ (T.a.toNat:Int)):=(hI.v 0 nN).cell 0;have c1:W.cell? ⟨bs 17,0,none⟩=some (ng nJ (T.b.toNat:Int)):=(hI.v 1 nN).cell 0;have c2:W.cell? ⟨bs 18,0,none⟩=some (ng nJ (T.c.toNat:Int)):=(hI.v 2 nN).cell 0;have c3:W.cell? ⟨bs 19,0,none⟩=some (ng nJ (T.d.toNat:Int)):=(hI.v 3 nN).cell 0;have c4:W.cell? ⟨bs 20,0,none⟩=some (ng nJ (T.e.toNat:Int)):=(hI.v 4 nN).cell 0;have c5:W.cell? ⟨bs 21,0,none⟩=some (ng nJ (T.f.toNat:Int)):=(hI.v 5 nN).cell 0;have c6:W.cell? ⟨bs 22,0,none⟩=some (ng nJ (T.g.toNat:Int)):=(hI.v 6 nN).cell 0;have c7:W.cell? ⟨bs 23,0,none⟩=some (ng nJ (T.h.toNat:Int)):=(hI.v 7 nN).cell 0;have aB:=jH hI;have eB:=jH eu;have bS:=jH cZ;clear hI eu cZ cK dD dE aI aF hlt;go_wp2_with fail;go_loopw [98] (λi wr=>∃k:Nat,k<=8/\i=ng nH k/\jS b0 w wr/\nO wr b0 (a0w st T k) 31/\nO wr (b0+1) (lI 8 (ng nJ 0)) 31/\wr.heap[D]? =some (.deferred (some []))) (λi _=>8 -(kW i).toNat);case atStart=>exact⟨0,nK,rfl,aB.below,aB.st,aB.res,eB.out⟩
  case round=>
   obtain⟨k,hk,rfl,hB,hst,Z,hd⟩:=hrel;have eD:=jH hB;have eF:=jH hd;clear hB hd;by_cases aL:k<8
   .have c:wr.cell? ⟨b0,k,none⟩=some (ng nJ ((st.get k).toNat:Int)):=(hst.cell k).trans (a2U st T aL)
    have f:wr.frozen? ⟨b0,k,none⟩=false:=hst.free k;have ag:∀w',(kR 31 (nC #[ng nJ (T.a.toNat:Int),ng nJ (T.b.toNat:Int),ng nJ (T.c.toNat:Int),ng nJ (T.d.toNat:Int),ng nJ (T.e.toNat:Int),ng nJ (T.f.toNat:Int),ng nJ (T.g.toNat:Int),ng nJ (T.h.toNat:Int)]) (ng nH k)).run jI w'=.ok (ng nJ ((T.get k).toNat:Int)) w':=λw'=>a5C T aL w'
    have eZ:=jH hst;have eG:=jH Z;have gK:=jH aL;have fI:(k:Int)<8:=nK;clear hst Z;have eH:=jH (a0x st T aL);generalize st.get k=fq at*;generalize T.get k=fu at*;go_wp2_with fail;rw[zD];go_roundw;case rel=>exact⟨k+1,nK,by go_num,eD.setCell (jL _) _,by have:=eZ.set k (ng nJ ((fq+fu).toNat:Int));rw[eH.out]at this;exact this,eG.setOther nR _,(j6 _ _ _ _ nQ).trans eF.out⟩
    case measure=>simp[kW];omega
   .obtain rfl:k=8:=nK
    have hst:nO wr b0 (a0u st T).cs 31:=hst;have J:nO wr (b0+1) #[ng nJ 0,ng nJ 0,ng nJ 0,ng nJ 0,ng nJ 0,ng nJ 0,ng nJ 0,ng nJ 0] 31:=Z;have bT:=bS.out;generalize a0u st T=Q at*;have z0:wr.cell? ⟨b0,0,none⟩=some (ng nJ (Q.a.toNat:Int)):=hst.cell 0;have r0:wr.cell? ⟨b0+1,0,none⟩=some (ng nJ 0):=J.cell 0;have fJ:wr.frozen? ⟨b0+1,0,none⟩=false:=J.free 0;have gL:wr.cell? ⟨b0,1,none⟩=some (ng nJ (Q.b.toNat:Int)):=hst.cell 1;have r1:wr.cell? ⟨b0+1,1,none⟩=some (ng nJ 0):=J.cell 1;have fK:wr.frozen? ⟨b0+1,1,none⟩=false:=J.free 1;have gM:wr.cell? ⟨b0,2,none⟩=some (ng nJ (Q.c.toNat:Int)):=hst.cell 2;have r2:wr.cell? ⟨b0+1,2,none⟩=some (ng nJ 0):=J.cell 2;have fM:wr.frozen? ⟨b0+1,2,none⟩=false:=J.free 2;have z3:wr.cell? ⟨b0,3,none⟩=some (ng nJ (Q.d.toNat:Int)):=hst.cell 3;have r3:wr.cell? ⟨b0+1,3,none⟩=some (ng nJ 0):=J.cell 3;have fO:wr.frozen? ⟨b0+1,3,none⟩=false:=J.free 3;have z4:wr.cell? ⟨b0,4,none⟩=some (ng nJ (Q.e.toNat:Int)):=hst.cell 4;have r4:wr.cell? ⟨b0+1,4,none⟩=some (ng nJ 0):=J.cell 4;have fP:wr.frozen? ⟨b0+1,4,none⟩=false:=J.free 4;have z5:wr.cell? ⟨b0,5,none⟩=some (ng nJ (Q.f.toNat:Int)):=hst.cell 5;have gN:wr.cell? ⟨b0+1,5,none⟩=some (ng nJ 0):=J.cell 5;have fQ:wr.frozen? ⟨b0+1,5,none⟩=false:=J.free 5;have gP:wr.cell? ⟨b0,6,none⟩=some (ng nJ (Q.g.toNat:Int)):=hst.cell 6;have gQ:wr.cell? ⟨b0+1,6,none⟩=some (ng nJ 0):=J.cell 6;have fT:wr.frozen? ⟨b0+1,6,none⟩=false:=J.free 6;have gT:wr.cell? ⟨b0,7,none⟩=some (ng nJ (Q.h.toNat:Int)):=hst.cell 7;have gU:wr.cell? ⟨b0+1,7,none⟩=some (ng nJ 0):=J.cell 7;have fU:wr.frozen? ⟨b0+1,7,none⟩=false:=J.free 7;have eO:=jH bT;clear bT bS Z;have eP:=jH J;clear J hst;go_wp2_with fail;have hF:=((((((((eP.set 0 (ng nJ (Q.a.toNat:Int))).set 1 (ng nJ (Q.b.toNat:Int))).set 2 (ng nJ (Q.c.toNat:Int))).set 3 (ng nJ (Q.d.toNat:Int))).set 4 (ng nJ (Q.e.toNat:Int))).set 5 (ng nJ (Q.f.toNat:Int))).set 6 (ng nJ (Q.g.toNat:Int))).set 7 (ng nJ (Q.h.toNat:Int)));have aX:=(um (um (um (um (um (um (um (um eD 0 (ng nJ (Q.a.toNat:Int))) 1 (ng nJ (Q.b.toNat:Int))) 2 (ng nJ (Q.c.toNat:Int))) 3 (ng nJ (Q.d.toNat:Int))) 4 (ng nJ (Q.e.toNat:Int))) 5 (ng nJ (Q.f.toNat:Int))) 6 (ng nJ (Q.g.toNat:Int))) 7 (ng nJ (Q.h.toNat:Int)));have ae:D≠b0+1:=nK;have af:=eF.out;rw[<-j6 _ ⟨b0+1,0,none⟩ (ng nJ (Q.a.toNat:Int)) D (by simpa using ae)]at af;rw[<-j6 _ ⟨b0+1,1,none⟩ (ng nJ (Q.b.toNat:Int)) D (by simpa using ae)]at af;rw[<-j6 _ ⟨b0+1,2,none⟩ (ng nJ (Q.c.toNat:Int)) D (by simpa using ae)]at af;rw[<-j6 _ ⟨b0+1,3,none⟩ (ng nJ (Q.d.toNat:Int)) D (by simpa using ae)]at af;rw[<-j6 _ ⟨b0+1,4,none⟩ (ng nJ (Q.e.toNat:Int)) D (by simpa using ae)]at af;rw[<-j6 _ ⟨b0+1,5,none⟩ (ng nJ (Q.f.toNat:Int)) D (by simpa using ae)]at af;rw[<-j6 _ ⟨b0+1,6,none⟩ (ng nJ (Q.g.toNat:Int)) D (by simpa using ae)]at af;rw[<-j6 _ ⟨b0+1,7,none⟩ (ng nJ (Q.h.toNat:Int)) D (by simpa using ae)]at af;simp only[jK,jQ,jR]at hF;revert hF aX af;generalize ((((((((wr.setCell ⟨b0+1,0,none⟩ (ng nJ (Q.a.toNat:Int))).setCell ⟨b0+1,1,none⟩ (ng nJ (Q.b.toNat:Int))).setCell ⟨b0+1,2,none⟩ (ng nJ (Q.c.toNat:Int))).setCell ⟨b0+1,3,none⟩ (ng nJ (Q.d.toNat:Int))).setCell ⟨b0+1,4,none⟩ (ng nJ (Q.e.toNat:Int))).setCell ⟨b0+1,5,none⟩ (ng nJ (Q.f.toNat:Int))).setCell ⟨b0+1,6,none⟩ (ng nJ (Q.g.toNat:Int))).setCell ⟨b0+1,7,none⟩ (ng nJ (Q.h.toNat:Int)))=wf;intro aX af hF;have hF:nO wf (b0+1) Q.cs 31:=hF;refine⟨nR,.inl ⟨_,_,rfl,run_takeDeferred af,?_⟩⟩;have aC:nO (wf.putObj D (.deferred none)) (b0+1) Q.cs 31:=(World.putObj_heap_other nK).trans hF;have bU:jS b0 w (wf.putObj D (.deferred none)):=aX.grown (grownBy_putObj' wf D _) (by have:=hF.lt;omega) (λk hk=>by cases hk;omega);generalize wf.putObj D (.deferred none)=aH at aC bU⊢;have fw:aH.cell? ⟨b0+1,0,none⟩=some (ng nJ (Q.a.toNat:Int)):=aC.cell 0;have fA:aH.cell? ⟨b0+1,1,none⟩=some (ng nJ (Q.b.toNat:Int)):=aC.cell 1;have fB:aH.cell? ⟨b0+1,2,none⟩=some (ng nJ (Q.c.toNat:Int)):=aC.cell 2;have fC:aH.cell? ⟨b0+1,3,none⟩=some (ng nJ (Q.d.toNat:Int)):=aC.cell 3;have fD:aH.cell? ⟨b0+1,4,none⟩=some (ng nJ (Q.e.toNat:Int)):=aC.cell 4;have fE:aH.cell? ⟨b0+1,5,none⟩=some (ng nJ (Q.f.toNat:Int)):=aC.cell 5;have fF:aH.cell? ⟨b0+1,6,none⟩=some (ng nJ (Q.g.toNat:Int)):=aC.cell 6;have fG:aH.cell? ⟨b0+1,7,none⟩=some (ng nJ (Q.h.toNat:Int)):=aC.cell 7;refine⟨nC Q.cs,?_,?_⟩
    .unfold S8.cs
     simp[kK,Tryz.results254,go_sem,fw,fA,fB,fC,fD,fE,fF,fG]
    .rw[df.out]
     exact⟨by rw[eO.out],bU⟩
theorem Jg:ql jI 86 5 9:=⟨l8,Tryz.underlying5,mR,nM⟩
def a3f(w:jJ)(b:Nat)(A:S8):jJ:=
 (((((((w.setCell ⟨b,0,none⟩ (ng nJ (A.a.toNat:Int))).setCell ⟨b,1,none⟩ (ng nJ (A.b.toNat:Int))).setCell ⟨b,2,none⟩ (ng nJ (A.c.toNat:Int))).setCell ⟨b,3,none⟩ (ng nJ (A.d.toNat:Int))).setCell ⟨b,4,none⟩ (ng nJ (A.e.toNat:Int))).setCell ⟨b,5,none⟩ (ng nJ (A.f.toNat:Int))).setCell ⟨b,6,none⟩ (ng nJ (A.g.toNat:Int))).setCell ⟨b,7,none⟩ (ng nJ (A.h.toNat:Int))
theorem MM{C:S8}(h:nO w b C.cs t)(A:S8):nO (a3f w b A) b A.cs t:=by
 unfold S8.cs at*;unfold a3f;have:=(((((((h.set 0 (ng nJ (A.a.toNat:Int))).set 1 (ng nJ (A.b.toNat:Int))).set 2 (ng nJ (A.c.toNat:Int))).set 3 (ng nJ (A.d.toNat:Int))).set 4 (ng nJ (A.e.toNat:Int))).set 5 (ng nJ (A.f.toNat:Int))).set 6 (ng nJ (A.g.toNat:Int))).set 7 (ng nJ (A.h.toNat:Int));simp only[jK,jQ,jR]at this;exact this
theorem Gb{B:Nat}{w0:jJ}(h:jS B w0 w)(hb:B<=b)(A:S8):jS B w0 (a3f w b A):=
 (((((((h.setCell hb _).setCell hb _).setCell hb _).setCell hb _).setCell hb _).setCell hb _).setCell hb _).setCell hb _
theorem nO.eight{A:S8}(h:nO w b A.cs t):
  w.cell? ⟨b,0,none⟩=some (ng nJ (A.a.toNat:Int))/\w.cell? ⟨b,1,none⟩=some (ng nJ (A.b.toNat:Int))/\w.cell? ⟨b,2,none⟩=some (ng nJ (A.c.toNat:Int))/\w.cell? ⟨b,3,none⟩=some (ng nJ (A.d.toNat:Int))/\
  w.cell? ⟨b,4,none⟩=some (ng nJ (A.e.toNat:Int))/\w.cell? ⟨b,5,none⟩=some (ng nJ (A.f.toNat:Int))/\w.cell? ⟨b,6,none⟩=some (ng nJ (A.g.toNat:Int))/\w.cell? ⟨b,7,none⟩=some (ng nJ (A.h.toNat:Int)):=
 ⟨h.cell 0,h.cell 1,h.cell 2,h.cell 3,h.cell 4,h.cell 5,h.cell 6,h.cell 7⟩
theorem Ud(w:jJ):jV jI 253 #[] w λe w'=>e=nE (nC xS.cs)/\jS w.heap.size w w':=by
 have hB:=jH ((jT w.heap.size w).alloc (jL _) (nG xS.cs 31));have hb:=(nO.new w xS.cs 31).eight;have A:=jH hb;clear hb;go_in;go_wp2_with fail;change bodyPost _ _ _ _ _ (w.alloc (nG xS.cs 31));have q:=A.out;clear A;generalize w.alloc (nG xS.cs 31)=w1 at*;exact j4 (v:=nC xS.cs) (by simp[kK,Tryz.results253,go_sem,q];rfl) rfl ⟨rfl,hB.out⟩
theorem a0y:∃i,Tryz.prog.info? 5=some i/\i.zero=some (ng .u8 0)/\i.size=1/\i.bytes=1:=by
 obtain⟨I,hi,A,C,E⟩:=info_parts Jg.hi;exact⟨I,hi,A,C,E⟩
theorem MN(m c:Nat)(L C:Int)(hL:L=m)(A:C=c)(J:m<=c)(hc:c<=1000)(w:jJ):(Instr.makeSlice 86 (ng nH L) (ng nH C)).run jI w=
  .ok (nk (some ⟨w.heap.size,0,none⟩) m c) (w.alloc (nG (madeCells #[ng .u8 0] c) 5)):=by
 subst hL A;obtain⟨i,hi,E,hs,hb⟩:=a0y;have I:=run_make (P:=jI) w 86 5 i (ng .u8 0) Jg.ht hi E nH nH (m:Int) (c:Int) nK nK (by rw[hb];omega) nK;simpa [hs,Value.cells]using I
theorem EA(n:Nat):(DN n).length=9+(64 -(n+9) % 64) % 64:=by
 unfold DN;simp;omega
def wh(n i:Nat):List UInt8:=(l7 i).map λj=>jZ (n*8/256^(7 - j) % 256)
theorem sF(n i:Nat)(l:List UInt8):l++wh n (i+1)=(l++wh n i)++[jZ (n*8/256^(7 - i) % 256)]:=by
 unfold wh;rw[List.range_succ,List.map_append,lD];rfl
def zF(k:Nat):List UInt8:=128::lu k 0
theorem a0z(n:Nat):DN n=zF ((64 -(n+9) % 64) % 64)++wh n 8:=rfl
theorem a0A(n:Nat)(w:jJ)(hn:n<=1099511627776):
  jV jI 255 #[ng nH n] w λe w'=>e=nE (nD #[ny ⟨(DN n).toArray⟩,ng nH 0])/\jS w.heap.size w w':=by
 have h0:decide ((n:Int)<0)=false:=nR;have ai:decide (1099511627776<(n:Int))=false:=nQ;have hp:=jH (a0z n);generalize DN n=aj at*;obtain⟨k,hk⟩:∃k,k=(64 -(n+9) % 64) % 64:=⟨_,rfl⟩;rw[<-hk]at hp;have ae:k<64:=nK;have af:=MN (k+1) (k+9) (1+ -(((n:Int)+9) % 64) % 64) (1+ -(((n:Int)+9) % 64) % 64+8) nK nK nK nK w;have ag:=jH hn;clear hk;obtain⟨B,hB⟩:=nT w.heap.size;have Q:=jH hB;clear hB;go_in;go_upto_region 5 with fail;have hB:=Q.out;rw[hB];refine uV (λW=>W.ownsRow B 5 1 (nk (some ⟨B,0,none⟩) (k+1) (k+9)) (k+1) (nU (lu (k+1) 0))/\jS B w W) ?_ ?_
 .have V:=mV hB.symm
  refine⟨⟨nR,.inr ⟨B,k+9,madeCells #[ng .u8 0] (k+9),rfl,jL _,?_,nK,zg,by rw[size_madeCells,Nat.mul_one],?_⟩⟩,(jT _ _).alloc V _⟩;.rw[<-hB];exact World.alloc_heap_new w _
  .rw[toList_madeCells_one]
   simp[nU,List.take_replicate,List.map_replicate]
 rintro W ⟨C,E⟩;have Y:W.cell? ⟨B,0,none⟩=some (ng .u8 0):=by rw[C.cellAt 0 nK];simp[nU,List.replicate_succ]
 have Z:=C.frozenAt 0;have hst:=(C.stored 0 (ng .u8 128)).1;have O:=E.setCell (p:=⟨B,0,none⟩) (jL _) (ng .u8 128);clear af E hB;have U:=jH (jU hst O);clear hst O C;go_upto_region 6 with fail;refine uV (λW=>oD W B 5 (nk (some ⟨B,0,none⟩) (k+1) (k+9)) (zF k++wh n 0)/\jS B w W) ⟨?_,U.2⟩ ?_
 .have:=U.1
  unfold oD;have e:zF k++wh n 0=zF k:=by unfold wh;simp
  rw[e];have e2:(zF k).length=k+1:=by unfold zF;simp
  rw[e2];have e3:nU (zF k)=(nU (lu (k+1) 0)).set 0 (ng .u8 128):=by unfold zF nU;simp[List.replicate_succ]
  rw[e3];exact this
 clear U Y Z W;rintro W ⟨C,E⟩;have ah:(zF k).length=k+1:=by unfold zF;simp
 generalize zF k=hd at*;generalize (1+ -(((n:Int)+9) % 64) % 64+8)=ak;generalize (1+ -(((n:Int)+9) % 64) % 64)=au;generalize (64 -((n:Int)+9) % 64) % 64=z3;generalize 64 -((n:Int)+9) % 64=z4;generalize ((n:Int)+9) % 64=z5;generalize (n:Int)+9=av;go_wp2_with fail;go_loopw [5,26] (λv i wr=>∃j:Nat,j<=8/\i=ng nH j/\oD wr B 5 v (hd++wh n j)/\jS B w wr) (λ_ i _=>8 -(kW i).toNat);case atStart=>exact⟨0,nK,rfl,C,E⟩
 case round=>
  obtain⟨j,ax,rfl,C,E⟩:=hrel;have N:B<=wr.heap.size:=by have:=E.size;have:=Q.out;omega
  have ay:=ag.out;have aa:j=0\/j=1\/j=2\/j=3\/j=4\/j=5\/j=6\/j=7\/j=8:=nK;rcases aa with rfl|rfl|rfl|rfl|rfl|rfl|rfl|rfl|rfl
  .go_wp2_with (at_builtin;refine oP Jg rfl (.tmp 29) (.tmp 38) rfl B _ _ [jZ (n*8/256^7 % 256)] 1 rfl wr _ (yf (n:=n*8/256^7 % 256) nK (Nat.mod_lt _ nN)) rfl C rfl (by simp[wh];omega) N ?_;intro v' w' A I J)
   go_roundw;case rel=>exact⟨1,nK,by go_num,by rw[sF];exact A,E.trans I⟩
   case measure=>simp[kW]
  .go_wp2_with (at_builtin;refine oP Jg rfl (.tmp 29) (.tmp 38) rfl B _ _ [jZ (n*8/256^6 % 256)] 1 rfl wr _ (yf (n:=n*8/256^6 % 256) nK (Nat.mod_lt _ nN)) rfl C rfl (by simp[wh];omega) N ?_;intro v' w' A I J)
   go_roundw;case rel=>exact⟨2,nK,by go_num,by rw[sF];exact A,E.trans I⟩
   case measure=>simp[kW]
  .go_wp2_with (at_builtin;refine oP Jg rfl (.tmp 29) (.tmp 38) rfl B _ _ [jZ (n*8/256^5 % 256)] 1 rfl wr _ (yf (n:=n*8/256^5 % 256) nK (Nat.mod_lt _ nN)) rfl C rfl (by simp[wh];omega) N ?_;intro v' w' A I J)
   go_roundw;case rel=>exact⟨3,nK,by go_num,by rw[sF];exact A,E.trans I⟩
   case measure=>simp[kW]
  .go_wp2_with (at_builtin;refine oP Jg rfl (.tmp 29) (.tmp 38) rfl B _ _ [jZ (n*8/256^4 % 256)] 1 rfl wr _ (yf (n:=n*8/256^4 % 256) nK (Nat.mod_lt _ nN)) rfl C rfl (by simp[wh];omega) N ?_;intro v' w' A I J)
   go_roundw;case rel=>exact⟨4,nK,by go_num,by rw[sF];exact A,E.trans I⟩
   case measure=>simp[kW]
  .go_wp2_with (at_builtin;refine oP Jg rfl (.tmp 29) (.tmp 38) rfl B _ _ [jZ (n*8/256^3 % 256)] 1 rfl wr _ (yf (n:=n*8/256^3 % 256) nK (Nat.mod_lt _ nN)) rfl C rfl (by simp[wh];omega) N ?_;intro v' w' A I J)
   go_roundw;case rel=>exact⟨5,nK,by go_num,by rw[sF];exact A,E.trans I⟩
   case measure=>simp[kW]
  .go_wp2_with (at_builtin;refine oP Jg rfl (.tmp 29) (.tmp 38) rfl B _ _ [jZ (n*8/256^2 % 256)] 1 rfl wr _ (yf (n:=n*8/256^2 % 256) nK (Nat.mod_lt _ nN)) rfl C rfl (by simp[wh];omega) N ?_;intro v' w' A I J)
   go_roundw;case rel=>exact⟨6,nK,by go_num,by rw[sF];exact A,E.trans I⟩
   case measure=>simp[kW]
  .go_wp2_with (at_builtin;refine oP Jg rfl (.tmp 29) (.tmp 38) rfl B _ _ [jZ (n*8/256^1 % 256)] 1 rfl wr _ (yf (n:=n*8/256^1 % 256) nK (Nat.mod_lt _ nN)) rfl C rfl (by simp[wh];omega) N ?_;intro v' w' A I J)
   go_roundw;case rel=>exact⟨7,nK,by go_num,by rw[sF];exact A,E.trans I⟩
   case measure=>simp[kW]
  .go_wp2_with (at_builtin;refine oP Jg rfl (.tmp 29) (.tmp 38) rfl B _ _ [jZ (n*8/256^0 % 256)] 1 rfl wr _ (yf (n:=n*8/256^0 % 256) nK (Nat.mod_lt _ nN)) rfl C rfl (by simp[wh];omega) N ?_;intro v' w' A I J)
   go_roundw;case rel=>exact⟨8,nK,by go_num,by rw[sF];exact A,E.trans I⟩
   case measure=>simp[kW]
  .have hst:=C.string Jg
   go_wp2_with fail;go_returns;refine⟨by rw[hp.out];rfl,by rw[Q.out];exact E⟩
def vT(A:S8->List UInt8->S8)(L:List UInt8)(p:Nat)(s r:S8):Prop:=∃k,DR A (L.drop p) k s=r/\p+64*k=L.length
theorem vT.step{A:S8->List UInt8->S8}{s r:S8}(h:vT A L p s r)(hp:p+64<=L.length):vT A L (p+64) (A s ((L.drop p).take 64)) r:=by
 obtain⟨k,hk,hl⟩:=h;obtain⟨j,rfl⟩:∃j,k=j+1:=⟨k - 1,nK⟩;rw[MB,List.drop_drop]at hk;exact⟨j,hk,nK⟩
theorem vT.drop{A:S8->List UInt8->S8}{s r:S8}(h:vT A L p s r):vT A (L.drop p) 0 s r:=by
 obtain⟨k,hk,hl⟩:=h;exact⟨k,hk,by rw[kS];omega⟩
def y9(L:List UInt8)(p:Nat)(s r:S8):Prop:=vT Mx L p s r
theorem vT.start(A:S8->List UInt8->S8)(L:List UInt8)(s:S8)(h:L.length % 64=0):vT A L 0 s (DR A L (L.length/64) s):=⟨L.length/64,rfl,nK⟩
theorem y9.start(L:List UInt8)(s:S8)(h:L.length % 64=0):y9 L 0 s (Pg L (L.length/64) s):=vT.start Mx L s h
theorem y9.step{s r:S8}(h:y9 L p s r)(hp:p+64<=L.length):y9 L (p+64) (Mx s ((L.drop p).take 64)) r:=vT.step h hp
theorem y9.drop{s r:S8}(h:y9 L p s r):y9 (L.drop p) 0 s r:=vT.drop h
theorem Ko{l m:List UInt8}(h:p+64<=l.length):((l++m).drop p).take 64=(l.drop p).take 64:=by
 rw[List.drop_append_of_le_length nK,List.take_append_of_le_length (by rw[kS];omega)]
theorem ext_list(s:ByteArray)(p:Nat):(s.extract p (p+64)).data.toList=(s.data.toList.drop p).take 64:=by
 rw[mY];congr 1;omega
def DW(r:S8):Nat->List UInt8
 |0=>[]
 |k+1=>DW r k++uY (r.get k)
theorem Wu(r:S8):r.out=DW r 8:=by simp[DW,S8.out,S8.get]
theorem uo(x:UInt32):[lT .u8 ((x.toNat:Int)/16777216 % 256),ng .u8 ((x.toNat:Int)/65536 % 256),ng .u8 ((x.toNat:Int)/256 % 256),ng .u8 ((x.toNat:Int) % 256)]=nU (uY x):=by
 unfold nU uY;have e:∀m:Nat,((jZ (m % 256)).toNat:Int)=(m:Int) % 256:=λm=>by rw[zu _ (Nat.mod_lt _ nN)];omega
 simp only[mH,List.map_nil,e,Int.natCast_ediv];rfl
theorem a0B(s:ByteArray)(w:jJ)(hs:s.size<=100000):
  jV jI 218 #[ny s] w λe w'=>e=nE (ny ⟨(TV s.data.toList).toArray⟩)/\jS w.heap.size w w':=by
 obtain⟨B,hB⟩:=nT w.heap.size;have bA:=jH hB;rw[hB];clear hB;obtain⟨l,hl⟩:∃l,l=s.data.toList:=⟨_,rfl⟩;have aF:l.length=s.size:=by rw[hl];rfl
 obtain⟨r,aO⟩:∃r,r=Pg (l++DN l.length) ((l++DN l.length).length/64) xS:=⟨_,rfl⟩;have au:TV s.data.toList=r.out:=by rw[aO,hl];rfl
 rw[au];have av:y9 (l++DN l.length) 0 xS r:=by
  rw[aO];refine y9.start _ _ ?_;rw[jY,EA];omega
 have aS:=jH av;have aT:=jH hl;have ai:=jH aF;clear au aO av hl aF;obtain⟨q,bB⟩:∃q,q=s.size/64:=⟨_,rfl⟩;have aU:jW (((s.size:Int) -(s.size:Int) % 64)=((64*q:Nat):Int)):=by unfold jW;omega
 have aG:64*q<=s.size/\s.size<64*q+64:=nK;clear bB;have ax:=jH aG;clear aG;have c1:=jH (λw=>Ud w);generalize xS=aP at*;go_in;go_wp2_with fail;refine(c1 _).mono ?_;rintro e w1 ⟨rfl,ay⟩;unfold S8.cs;go_upto_region 3 with fail;rw[aU.out];have aH:=bA.out;obtain⟨b3,aj⟩:=nT w1.heap.size;have aI:B<=b3:=by have:=ay.size;omega
 refine uV (λW=>nO W b3 aP.cs 31/\jS B w W) ⟨aj▸nO.new w1 aP.cs _,(aH▸ay).alloc nK _⟩ ?_;rw[aj];clear ay aj aH w1;rintro W ⟨hst,C⟩;go_wp2_with fail;go_loopw [5] (λi wr=>∃(p:Nat) (g:S8),i=ng nH p/\jW (p<=64*q/\p % 64=0)/\jW (y9 (l++DN l.length) p g r)/\nO wr b3 g.cs 31/\jS B w wr) (λi _=>64*q -(kW i).toNat);case atStart=>exact⟨0,aP,rfl,⟨nK,nK⟩,aS,hst,C⟩
 case round=>
  obtain⟨p,g,rfl,hp,U,hst,C⟩:=hrel;by_cases hlt:p<64*q
  .have bC:p+64<=s.size:=by have bH:=hp.out;have bI:=ax.out;omega
   have V:=λ(x:sM wr)=>(Below.blk x.is hst hst.lt).eight
   go_upto_region 6 with fail;refine vI 7 nM nM ?_;simp only[ky,kQ,mX,List.drop_zero];have hsz:(s.extract p (p+64)).size=64:=by rw[kz];omega
   have af:=jH (λw=>Rw g (s.extract p (p+64)) w hsz);have I:=U.step (by rw[jY,ai.out];omega);have aJ:((l++DN l.length).drop p).take 64=(s.extract p (p+64)).data.toList:=by rw[Ko (by rw[ai.out];omega),ext_list,aT.out]
   rw[aJ]at I;clear aJ;generalize Mx g (s.extract p (p+64)).data.toList=ah at af I;have aQ:=jH I;clear I;clear hsz;unfold S8.cs at af;repeat(go_big_quiet_step ((exact Calls.after (af _))))
   refine mJ ?_;intro x;have N:=Below.blk x.is hst hst.lt;have Y:=C.trans (x.is.mono (by have:=hst.lt;omega));have az:=N.eight;have fr:=N.free;have aA:=jH Y;have aB:=jH N;clear N Y V hst C af;obtain⟨bD,aV⟩:=x;simp only at*;go_wp2_with fail;have aW:=hp.out;exact⟨⟨p+64,ah,by go_num,⟨nK,nK⟩,aQ,MM aB ah,Gb aA aI ah⟩,by simp[kW];omega⟩
  .obtain rfl:p=64*q:=by have:=hp.out;omega
   have cp:=jH (λw=>a0A s.size w nK);have aX:=EA s.size;have Z:=U.drop;rw[List.drop_append_of_le_length (by rw[ai.out];exact ax.1)]at Z;rw[ai.out]at Z;generalize DN s.size=ae at*;have aK:(s.extract (64*q) s.size++⟨ae.toArray⟩).data.toList=l.drop (64*q)++ae:=by
    rw[aT.out];simp only[ByteArray.data_append,Array.toList_append,mY];rw[List.take_of_length_le (by rw[kS,<-Lib.size_eq];omega)]
   rw[<-aK]at Z;have aC:(s.extract (64*q) s.size++⟨ae.toArray⟩).size=s.size - 64*q+ae.length:=by
    have:=size_mk ae;have:=ax.out;rw[ByteArray.size_append,kz];omega
   have aY:(⟨ae.toArray⟩:ByteArray).size<=72:=by rw[size_mk];omega
   have ak:(s.extract (64*q) s.size++⟨ae.toArray⟩).size<=200:=by have:=ax.out;rw[aC];have:=size_mk ae;omega
   have aZ:=jH ak;clear ak;have aL:=jH Z;have bg:=jH aC;have bG:=ax.out;have bq:=hst.lt;clear Z aK aC aX;go_wp2_with fail;refine(cp _).mono ?_;rintro e w5 ⟨rfl,aD⟩;go_upto_region 9 with fail
   .rename_i aR
    have:=size_mk ae;exact absurd aR nK
   have ag:=C.trans (aD.mono nK);have aa:=Below.blk aD hst hst.lt;clear cp aD hst C bq aY;generalize s.extract (64*q) s.size++⟨ae.toArray⟩=R at*;clear bg;have ak:=aZ.out;refine uV (λW=>nO W b3 g.cs 31/\jS B w W) ⟨aa,ag⟩ ?_;clear aa ag w5;rintro w5 ⟨aa,ag⟩;go_wp2_with fail;go_loopw [9] (λi wr=>∃(p:Nat) (g:S8),i=ng nH p/\jW (p<=R.size)/\jW (y9 R.data.toList p g r)/\nO wr b3 g.cs 31/\jS B w wr) (λi _=>R.size -(kW i).toNat);case atStart=>exact⟨0,g,rfl,kI _,aL,aa,ag⟩
   case round=>
    clear aa ag aL U hp hlt g;obtain⟨p,g,rfl,hp,U,hst,C⟩:=hrel;have aW:p<=200:=kg hp ak;by_cases hlt:p+64<=R.size
    .have V:=λ(x:sM wr)=>(Below.blk x.is hst hst.lt).eight
     go_upto_region 12 with fail;refine vI 7 nM nM ?_;simp only[ky,kQ,mX,List.drop_zero];have hsz:(R.extract p (p+64)).size=64:=by rw[kz];omega
     have af:=jH (λw=>Rw g (R.extract p (p+64)) w hsz);have I:=U.step (by rw[<-Lib.size_eq];omega);rw[<-ext_list]at I;generalize Mx g (R.extract p (p+64)).data.toList=ah at af I;have aQ:=jH I;clear I hsz;unfold S8.cs at af;repeat(go_big_quiet_step ((exact Calls.after (af _))))
     refine mJ ?_;intro x;have N:=Below.blk x.is hst hst.lt;have Y:=C.trans (x.is.mono (by have:=hst.lt;omega));have az:=N.eight;have fr:=N.free;have aA:=jH Y;have aB:=jH N;clear N Y V hst C af;obtain⟨bD,aV⟩:=x;simp only at*;go_wp2_with fail;exact⟨⟨p+64,ah,by go_num,hlt,aQ,MM aB ah,Gb aA aI ah⟩,by simp[kW];omega⟩
    .have bu:g=r:=by
      obtain⟨k,hk,hl⟩:=U.out;rw[<-Lib.size_eq]at hl;obtain rfl:k=0:=nK;exact hk
     clear U;subst bu;have az:=hst.eight;have bE:=MN 0 32 0 32 rfl rfl nN nN wr;have bF:=hst.lt;have aM:=jH C;have aN:=jH hst;clear hst C;go_upto_region 14 with fail;refine uV (λW=>oD W B 5 (nk (some ⟨wr.heap.size,0,none⟩) 0 32) (DW g 0)/\jS B w W/\nO W b3 g.cs 31) ⟨oD.made wr B _ _ 32 nK nN (by rw[size_madeCells]),aM.alloc nK _,aN.alloc _⟩ ?_;clear bE az aM aN;generalize wr.heap.size=bo at*;clear wr;rintro wr ⟨E,C,hst⟩;have az:=hst.eight;have aj:=hst.lt;clear hst;go_wp2_with fail;clear az;go_loopw [10,59] (λv i wr=>∃j:Nat,j<=8/\i=ng nH j/\oD wr B 5 v (DW g j)/\jS B w wr/\B<=wr.heap.size) (λ_ i _=>8 -(kW i).toNat);case atStart=>exact⟨0,nK,rfl,E,C,nK⟩
     case round=>
      clear E C;obtain⟨j,bJ,rfl,E,C,Q⟩:=hrel;have bz:j=0\/j=1\/j=2\/j=3\/j=4\/j=5\/j=6\/j=7\/j=8:=nK;rcases bz with rfl|rfl|rfl|rfl|rfl|rfl|rfl|rfl|rfl
      .have V:∀w',(kR 31 (nC #[ng nJ (g.a.toNat:Int),ng nJ (g.b.toNat:Int),ng nJ (g.c.toNat:Int),ng nJ (g.d.toNat:Int),ng nJ (g.e.toNat:Int),ng nJ (g.f.toNat:Int),ng nJ (g.g.toNat:Int),ng nJ (g.h.toNat:Int)]) (ng nH 0)).run jI w'=.ok (ng nJ (g.a.toNat:Int)) w':=λ_=>rfl
       go_wp2_with (at_builtin;refine oP Jg rfl (.tmp 62) (.tmp 74) rfl B _ _ (uY g.a) 4 rfl wr _ (uo g.a) rfl E rfl (by simp[DW,uY]) Q ?_;intro v' w' A J O);go_roundw;case rel=>exact⟨1,nK,by go_num,A,C.trans J,nK⟩
       case measure=>simp[kW]
      .have V:∀w',(kR 31 (nC #[ng nJ (g.a.toNat:Int),ng nJ (g.b.toNat:Int),ng nJ (g.c.toNat:Int),ng nJ (g.d.toNat:Int),ng nJ (g.e.toNat:Int),ng nJ (g.f.toNat:Int),ng nJ (g.g.toNat:Int),ng nJ (g.h.toNat:Int)]) (ng nH 1)).run jI w'=.ok (ng nJ (g.b.toNat:Int)) w':=λ_=>rfl
       go_wp2_with (at_builtin;refine oP Jg rfl (.tmp 62) (.tmp 74) rfl B _ _ (uY g.b) 4 rfl wr _ (uo g.b) rfl E rfl (by simp[DW,uY]) Q ?_;intro v' w' A J O);go_roundw;case rel=>exact⟨2,nK,by go_num,A,C.trans J,nK⟩
       case measure=>simp[kW]
      .have V:∀w',(kR 31 (nC #[ng nJ (g.a.toNat:Int),ng nJ (g.b.toNat:Int),ng nJ (g.c.toNat:Int),ng nJ (g.d.toNat:Int),ng nJ (g.e.toNat:Int),ng nJ (g.f.toNat:Int),ng nJ (g.g.toNat:Int),ng nJ (g.h.toNat:Int)]) (ng nH 2)).run jI w'=.ok (ng nJ (g.c.toNat:Int)) w':=λ_=>rfl
       go_wp2_with (at_builtin;refine oP Jg rfl (.tmp 62) (.tmp 74) rfl B _ _ (uY g.c) 4 rfl wr _ (uo g.c) rfl E rfl (by simp[DW,uY]) Q ?_;intro v' w' A J O);go_roundw;case rel=>exact⟨3,nK,by go_num,A,C.trans J,nK⟩
       case measure=>simp[kW]
      .have V:∀w',(kR 31 (nC #[ng nJ (g.a.toNat:Int),ng nJ (g.b.toNat:Int),ng nJ (g.c.toNat:Int),ng nJ (g.d.toNat:Int),ng nJ (g.e.toNat:Int),ng nJ (g.f.toNat:Int),ng nJ (g.g.toNat:Int),ng nJ (g.h.toNat:Int)]) (ng nH 3)).run jI w'=.ok (ng nJ (g.d.toNat:Int)) w':=λ_=>rfl
       go_wp2_with (at_builtin;refine oP Jg rfl (.tmp 62) (.tmp 74) rfl B _ _ (uY g.d) 4 rfl wr _ (uo g.d) rfl E rfl (by simp[DW,uY]) Q ?_;intro v' w' A J O);go_roundw;case rel=>exact⟨4,nK,by go_num,A,C.trans J,nK⟩
       case measure=>simp[kW]
      .have V:∀w',(kR 31 (nC #[ng nJ (g.a.toNat:Int),ng nJ (g.b.toNat:Int),ng nJ (g.c.toNat:Int),ng nJ (g.d.toNat:Int),ng nJ (g.e.toNat:Int),ng nJ (g.f.toNat:Int),ng nJ (g.g.toNat:Int),ng nJ (g.h.toNat:Int)]) (ng nH 4)).run jI w'=.ok (ng nJ (g.e.toNat:Int)) w':=λ_=>rfl
       go_wp2_with (at_builtin;refine oP Jg rfl (.tmp 62) (.tmp 74) rfl B _ _ (uY g.e) 4 rfl wr _ (uo g.e) rfl E rfl (by simp[DW,uY]) Q ?_;intro v' w' A J O);go_roundw;case rel=>exact⟨5,nK,by go_num,A,C.trans J,nK⟩
       case measure=>simp[kW]
      .have V:∀w',(kR 31 (nC #[ng nJ (g.a.toNat:Int),ng nJ (g.b.toNat:Int),ng nJ (g.c.toNat:Int),ng nJ (g.d.toNat:Int),ng nJ (g.e.toNat:Int),ng nJ (g.f.toNat:Int),ng nJ (g.g.toNat:Int),ng nJ (g.h.toNat:Int)]) (ng nH 5)).run jI w'=.ok (ng nJ (g.f.toNat:Int)) w':=λ_=>rfl
       go_wp2_with (at_builtin;refine oP Jg rfl (.tmp 62) (.tmp 74) rfl B _ _ (uY g.f) 4 rfl wr _ (uo g.f) rfl E rfl (by simp[DW,uY]) Q ?_;intro v' w' A J O);go_roundw;case rel=>exact⟨6,nK,by go_num,A,C.trans J,nK⟩
       case measure=>simp[kW]
      .have V:∀w',(kR 31 (nC #[ng nJ (g.a.toNat:Int),ng nJ (g.b.toNat:Int),ng nJ (g.c.toNat:Int),ng nJ (g.d.toNat:Int),ng nJ (g.e.toNat:Int),ng nJ (g.f.toNat:Int),ng nJ (g.g.toNat:Int),ng nJ (g.h.toNat:Int)]) (ng nH 6)).run jI w'=.ok (ng nJ (g.g.toNat:Int)) w':=λ_=>rfl
       go_wp2_with (at_builtin;refine oP Jg rfl (.tmp 62) (.tmp 74) rfl B _ _ (uY g.g) 4 rfl wr _ (uo g.g) rfl E rfl (by simp[DW,uY]) Q ?_;intro v' w' A J O);go_roundw;case rel=>exact⟨7,nK,by go_num,A,C.trans J,nK⟩
       case measure=>simp[kW]
      .have V:∀w',(kR 31 (nC #[ng nJ (g.a.toNat:Int),ng nJ (g.b.toNat:Int),ng nJ (g.c.toNat:Int),ng nJ (g.d.toNat:Int),ng nJ (g.e.toNat:Int),ng nJ (g.f.toNat:Int),ng nJ (g.g.toNat:Int),ng nJ (g.h.toNat:Int)]) (ng nH 7)).run jI w'=.ok (ng nJ (g.h.toNat:Int)) w':=λ_=>rfl
       go_wp2_with (at_builtin;refine oP Jg rfl (.tmp 62) (.tmp 74) rfl B _ _ (uY g.h) 4 rfl wr _ (uo g.h) rfl E rfl (by simp[DW,uY]) Q ?_;intro v' w' A J O);go_roundw;case rel=>exact⟨8,nK,by go_num,A,C.trans J,nK⟩
       case measure=>simp[kW]
      .have hst:=E.string Jg
       go_wp2_with fail;go_returns;exact⟨by rw[Wu];rfl,C⟩
def twG(f:List UInt8->List UInt8)(l:List UInt8):Nat->List UInt8
 |0=>l
 |n+1=>f (twG f l n)
def Kq(l:List UInt8):List UInt8:=twG TV l 2
theorem S8.Pt(r:S8):r.out.length=32:=rfl
theorem EB(l:List UInt8):(TV l).length=32:=S8.Pt _
theorem AZ(l:List UInt8):(Kq l).length=32:=EB _
def a2q(f:List UInt8->List UInt8):Prop:=(∀l,(f l).length=32)/\∀(s:ByteArray)(w:jJ),s.size<=100000->
  jV jI 218 #[ny s] w λe w'=>e=nE (ny ⟨(f s.data.toList).toArray⟩)/\jS w.heap.size w w'
theorem a3h:a2q TV:=⟨EB,λs w h=>a0B s w h⟩
theorem Pv(f:List UInt8->List UInt8)(E:a2q f)(s:ByteArray)(w:jJ)(hs:s.size<=100000):
  jV jI 180 #[ny s] w λe w'=>e=nE (ny ⟨(twG f s.data.toList 2).toArray⟩)/\jS w.heap.size w w':=by
 obtain⟨l,hl⟩:∃l,l=s.data.toList:=⟨_,rfl⟩;rw[<-hl];have V:=jH hl;have I:=jH E;clear hl E;obtain⟨B,hB⟩:=nT w.heap.size;have J:=jH hB;rw[hB];clear hB;go_in;go_wp2_with fail;go_loopw [0,3] (λv i wr=>∃(k:Nat) (S:ByteArray),v=ny S/\i=ng nH k/\k<=2/\jW (S.data.toList=twG f l k)/\S.size<=100000/\jS B w wr) (λ_ i _=>2 -(kW i).toNat);case atStart=>exact⟨0,s,rfl,rfl,nK,V.symm,hs,J.out▸jT _ _⟩
 case round=>
  obtain⟨k,S,rfl,rfl,hk,N,O,hb⟩:=hrel;by_cases c:k<2
  .go_wp2_with fail
   refine(I.2 S wr O).mono ?_;rintro e w1 ⟨rfl,Q⟩;have A:=I.1 S.data.toList;have e1:f S.data.toList=twG f l (k+1):=by rw[N.out];rfl
   rw[e1]at A⊢;generalize C:(⟨(twG f l (k+1)).toArray⟩:ByteArray)=T;have hsz:T.size<=100000:=by rw[<-C,size_mk,A];decide
   have Y:jW (T.data.toList=twG f l (k+1)):=by rw[<-C];rfl
   clear C A e1;have U:=hb.trans (Q.mono (by have Z:=hb.size;have aa:=J.out;omega));go_wp2_with fail;exact⟨⟨k+1,T,rfl,by go_num,nK,Y,hsz,U⟩,by simp[kW];omega⟩
  .obtain rfl:k=2:=nK
   go_wp2_with fail;go_returns;refine⟨congrArg (λb:ByteArray=>lH (Value.string b)) ?_,hb⟩;apply ByteArray.ext;apply Array.ext';exact N
theorem Ue(s:ByteArray)(w:jJ)(hs:s.size<=100000):
  jV jI 180 #[ny s] w λe w'=>e=nE (ny ⟨(Kq s.data.toList).toArray⟩)/\jS w.heap.size w w':=
 Pv TV a3h s w hs
def checkN(l:List UInt8):List UInt8:=(Kq l).take 4
theorem A7(l:List UInt8):(checkN l).length=4:=by rw[checkN,kY,AZ];rfl
theorem EC(s:ByteArray)(w:jJ)(hs:s.size<=100000):
  jV jI 130 #[ny s] w λe w'=>e=nE (ny ⟨(checkN s.data.toList).toArray⟩)/\jS w.heap.size w w':=by
 have c1:=jH (Ue s w hs);have hl:=AZ s.data.toList;obtain⟨T,C⟩:∃T,T=Kq s.data.toList:=⟨_,rfl⟩;have hc:checkN s.data.toList=T.take 4:=by rw[C];rfl
 rw[hc];rw[<-C]at c1 hl;clear hc C;have J:(⟨T.toArray⟩:ByteArray).size=32:=by rw[size_mk,hl]
 generalize A:(⟨T.toArray⟩:ByteArray)=N at*;have E:=jH A;clear A hl;go_in;go_wp2_with fail;refine c1.mono ?_;rintro e w1 ⟨rfl,I⟩;go_wp2_with fail;go_returns;refine⟨congrArg (λb:ByteArray=>lH (Value.string b)) ?_,I⟩;rw[<-E.out];apply ByteArray.ext;apply Array.ext';rw[mY];rfl
theorem Pw(s o:ByteArray)(w:jJ)(hs:s.size<=100000):
  jV jI 141 #[ny s,ny o] w λe w'=>e=nE (nA (o.toList==(⟨(checkN s.data.toList).toArray⟩:ByteArray).toList))/\jS w.heap.size w w':=by
 have c1:=jH (EC s w hs);generalize (⟨(checkN s.data.toList).toArray⟩:ByteArray)=C at*;go_in;go_wp2_with fail;refine c1.mono ?_;rintro e w1 ⟨rfl,A⟩;go_wp2_with fail;go_returns;exact⟨rfl,A⟩
end
section
open Go.RowKit
def IK(b:Bool)(er:Int):Int:=if b then 0 else er
theorem uq(b:Bool)(er:Int)(w:jJ):jV jI 134 #[nA b,ng nH er] w λe w'=>e=nE (ng nH (IK b er))/\w'=w:=by
 cases b with
 |true=>
  exact Bu
 |false=>
  exact Bu
theorem MO(s:ByteArray)(a b:Int)(A B ps:Nat)(w:jJ)(c0:w.cell? ⟨ps,0,none⟩=some (ny s))(C:a=A)(hb:b=B)(N:A<B)(E:B - A<=8)(hB:B<=s.size)(hs:s.size<=j5):
  jV jI 131 #[ng nH a,ng nH b,nz (some ⟨ps,0,none⟩)] w λe w'=>e=nE (ng nI (pU (s.extract A B).data.toList))/\w'=w:=by
 subst C hb;have I:(s.extract A B).size=B - A:=by simp[kz];omega
 have J:=jH (tC (s.extract A B) w nK nK);have O:s.size<=9223372036854775807:=by unfold j5 at hs;omega
 clear I E hs;generalize pU (s.extract A B).data.toList=Q at*;go_in;go_wp2_with fail;refine J.mono ?_;rintro e w2 ⟨rfl,rfl⟩;go_wp2_with fail;go_returns;exact⟨rfl,rfl⟩
theorem Kr(x:Int)(ps:Nat)(w:jJ):jV jI 132 #[ng nH x,nz (some ⟨ps,0,none⟩)] w
  λe w'=>e=nE (.func (.func 133) #[] #[nz (some ⟨ps,0,none⟩),nz (some ⟨w.heap.size,0,none⟩)])/\w'=w.alloc (nG #[ng nH x] 3):=by
 obtain⟨W,A⟩:=nT (w.alloc (nG #[ng nH x] 3));rw[A];have E:=jH A;obtain⟨g,hg⟩:=nT w.heap.size;rw[hg];have C:∀(fn:Fn)(first cap:Array jP)(w:jJ),(mG fn first cap).run jI w=.ok (.func fn first cap) w:=λ_ _ _ _=>rfl
 go_in;go_wp2_with fail;go_returns;exact⟨rfl,rfl⟩
theorem yL(s:ByteArray)(x:Int)(X ps A:Nat)(w:jJ)(c0:w.cell? ⟨ps,0,none⟩=some (ny s))(c1:w.cell? ⟨A,0,none⟩=some (ng nH x))(C:x=X)(hs:s.size<=j5):
  jV jI 133 #[nz (some ⟨ps,0,none⟩),nz (some ⟨A,0,none⟩)] w λe w'=>e=nE (ng nH (IK (decide (X<=s.size)) 2))/\w'=w:=by
 subst C;have J:s.size<=9223372036854775807:=by unfold j5 at hs;omega
 have E:=jH uq;have hd:decide ((X:Int)<=(s.size:Int))=decide (X<=s.size):=by rw[decide_eq_decide];omega
 have I:=jH hd;clear hs hd;go_in;go_wp2_with fail;refine(E _ _ _).mono ?_;rintro e w2 ⟨rfl,rfl⟩;go_wp2_with fail;go_returns;exact⟨by rw[<-I.out];rfl,rfl⟩
theorem Px(s:ByteArray)(m:Int)(ps A C:Nat)(w:jJ)(c0:w.cell? ⟨ps,0,none⟩=some (ny s))(h0:ps<w.heap.size)(c1:w.cell? ⟨A,0,none⟩=some (ng nJ m))(J:A<w.heap.size)(I:(lJ nJ m).wf=true)(c2:w.cell? ⟨C,0,none⟩=some (.func (.func 131) #[] #[nz (some ⟨ps,0,none⟩)]))(N:C<w.heap.size)(O:4<=s.size)(hs:s.size<=j5):
  jV jI 135 #[nz (some ⟨C,0,none⟩),nz (some ⟨A,0,none⟩)] w λe w'=>e=nE (ng nH (IK ((pU (s.extract 0 4).data.toList:Int)==m) 9))/\jS w.heap.size w w':=by
 have Q:=jH (λx:sM w=>(MO s 0 4 0 4 ps x.at_ ((x.is.cell (p:=⟨ps,0,none⟩) h0).trans c0) rfl rfl nN nN O hs).mono λe w' ⟨he,E⟩=>(⟨he,E▸jT _ _⟩:_/\jS x.at_.heap.size x.at_ w'));have U:=jH (λ(b:Bool) (x:sM w)=>(uq b 9 x.at_).mono λe w' ⟨he,E⟩=>(⟨he,E▸jT _ _⟩:_/\jS x.at_.heap.size x.at_ w'));have Y:∀x:sM w,x.at_.cell? ⟨A,0,none⟩=some (ng nJ m):=λx=>(x.is.cell (p:=⟨A,0,none⟩) J).trans c1
 have Z:∀x:sM w,x.at_.cell? ⟨C,0,none⟩=some (.func (.func 131) #[] #[nz (some ⟨ps,0,none⟩)]):=λx=>(x.is.cell (p:=⟨C,0,none⟩) N).trans c2
 have hm2:0<=m/\m<=4294967295:=by simpa [Lit.wf,IntKind.min,IntKind.max,IntKind.signed,IntKind.bits]using I
 have V:IntKind.u64.wrap m=m:=by
  simp only[IntKind.wrap,IntKind.signed,IntKind.bits];exact Int.emod_eq_of_lt hm2.1 nK
 generalize pU (s.extract 0 4).data.toList=aa at*;clear c0 c1 c2 hs I;go_in;go_upto_region 1 with fail;refine oC nM nM ?_;repeat(go_big_quiet_step (first|(go_at_call 131;exact Calls.after (Q _))|(go_at_call 134;exact Calls.after (U _ _))))
 refine mJ ?_;intro x;go_wp2_with fail;go_returns;exact⟨rfl,x.is⟩
def xz(s:ByteArray):ByteArray:=(Co (s.extract 4 16)).getD ⟨#[]⟩
def uZ(s:ByteArray):Nat:=pU (s.extract 16 20).data.toList
theorem Uf(s N:ByteArray)(ps C:Nat)(w:jJ)(c0:w.cell? ⟨ps,0,none⟩=some (ny s))(c1:w.cell? ⟨C,0,none⟩=some (ny N))(f1:w.frozen? ⟨C,0,none⟩=false)(V:16<=s.size)(hs:s.size<=j5):
  jV jI 136 #[nz (some ⟨ps,0,none⟩),nz (some ⟨C,0,none⟩)] w λe w'=>e=nE (ng nH (IK (Co (s.extract 4 16)).isSome 3))/\w'=w.setCell ⟨C,0,none⟩ (ny (xz s)):=by
 have Y:s.size<=9223372036854775807:=by unfold j5 at hs;omega
 have A:=a0s (s.extract 4 16) w (by simp[kz];unfold j5 at hs⊢;omega);unfold FX at A;obtain⟨nm,hn⟩:∃nm,(Co (s.extract 4 16)).getD ⟨#[]⟩=nm:=⟨_,rfl⟩;have I:xz s=nm:=hn;rw[hn]at A;rw[I];have O:=jH uq;obtain⟨b,hb⟩:=nT ((Co (s.extract 4 16)).isSome);rw[hb]at A⊢;obtain⟨er,E⟩:∃er:Int,(if b=true then(0:Int)else 3)=er:=⟨_,rfl⟩;rw[E]at A;have A:=jH A;have Q:jW (b=(er==0)):=jH (by subst E;cases b<;>rfl);obtain⟨W,J⟩:∃W,w.setCell ⟨C,0,none⟩ (ny nm)=W:=⟨_,rfl⟩;rw[J];have U:=jH J;clear hn I hb E hs J;go_in;go_wp2_with fail;refine A.mono ?_;rintro e w2 ⟨rfl,rfl⟩;go_wp2_with fail;refine(O _ _ _).mono ?_;rintro e w3 ⟨rfl,rfl⟩;go_wp2_with fail;go_returns;exact⟨by rw[Q.out];rfl,U.out⟩
theorem Wv(s:ByteArray)(most J:Int)(ps O A E:Nat)(w:jJ)(c0:w.cell? ⟨ps,0,none⟩=some (ny s))(c2:w.cell? ⟨O,0,none⟩=some (.func (.func 131) #[] #[nz (some ⟨ps,0,none⟩)]))(b1:nO w A #[ng nH J] 3)(b3:nO w E #[ng nH most] 3)(Q:E≠A)(U:20<=s.size)(hs:s.size<=j5):
  jV jI 138 #[nz (some ⟨O,0,none⟩),nz (some ⟨A,0,none⟩),nz (some ⟨E,0,none⟩)] w λe w'=>e=nE (ng nH (IK (decide ((uZ s:Int)<=most)) 5))/\w'=w.setCell ⟨A,0,none⟩ (ng nH (uZ s)):=by
 have I:jV jI 131 #[ng nH 16,ng nH 20,nz (some ⟨ps,0,none⟩)] w λe w'=>e=nE (ng nI (uZ s))/\w'=w:=MO s 16 20 16 20 ps w c0 rfl rfl nN nN U hs
 have I:=jH I;have Y:=jH uq;have hlt:uZ s<4294967296:=by
  have V:=uG (s.extract 16 20).data.toList;have Z:(s.extract 16 20).data.toList.length=4:=by
   rw[kV];show(s.extract 16 20).size=4;rw[kz];omega
  rw[Z]at V;exact V
 generalize uZ s=N at*;obtain⟨W,C⟩:∃W,w.setCell ⟨A,0,none⟩ (ng nH (N:Int))=W:=⟨_,rfl⟩;have c4:W.cell? ⟨A,0,none⟩=some (ng nH (N:Int)):=by rw[<-C];exact(b1.set 0 _).cell 0
 have c5:W.cell? ⟨E,0,none⟩=some (ng nH most):=by rw[<-C];exact(b3.setOther (a:=⟨A,0,none⟩) Q _).cell 0
 obtain⟨c1,f1⟩:=b1.b1;rw[C];have aa:=jH C;clear hs b1 b3;go_in;go_upto_region 1 with fail;clear C;go_wp2_with fail;refine I.mono ?_;rintro e w2 ⟨rfl,rfl⟩;go_upto_region 2 with fail;rw[aa.out];go_wp2_with fail;refine(Y _ _ _).mono ?_;rintro e w3 ⟨rfl,rfl⟩;go_wp2_with fail;go_returns;exact⟨rfl,rfl⟩
theorem Ug(s:ByteArray)(N ps A:Nat)(w:jJ)(c0:w.cell? ⟨ps,0,none⟩=some (ny s))(c1:w.cell? ⟨A,0,none⟩=some (ng nH (N:Int)))(I:24<=s.size)(hs:s.size<=j5):
  jV jI 139 #[nz (some ⟨ps,0,none⟩),nz (some ⟨A,0,none⟩)] w λe w'=>e=nE (ng nH (IK (decide (24+N<=s.size)) 2))/\w'=w:=by
 have J:s.size<=9223372036854775807:=by unfold j5 at hs;omega
 have C:=jH uq;have E:jW (decide ((N:Int)<=(s.size:Int) - 24)=decide (24+N<=s.size)):=jH (by rw[decide_eq_decide];omega);clear hs;go_in;go_wp2_with fail;refine(C _ _ _).mono ?_;rintro e w3 ⟨rfl,rfl⟩;go_wp2_with fail;go_returns;exact⟨by rw[<-E.out];rfl,rfl⟩
def Rx(b o:ByteArray):Bool:=o.toList==(⟨(checkN b.data.toList).toArray⟩:ByteArray).toList
theorem Ww(s:ByteArray)(N ps A:Nat)(w:jJ)(c0:w.cell? ⟨ps,0,none⟩=some (ny s))(h0:ps<w.heap.size)(c1:w.cell? ⟨A,0,none⟩=some (ng nH (N:Int)))(E:A<w.heap.size)(O:24+N<=s.size)(U:N<=100000)(hs:s.size<=j5):
  jV jI 140 #[nz (some ⟨ps,0,none⟩),nz (some ⟨A,0,none⟩)] w λe w'=>e=nE (ng nH (IK (Rx (s.extract 24 (24+N)) (s.extract 20 24)) 10))/\jS w.heap.size w w':=by
 have Q:s.size<=9223372036854775807:=by unfold j5 at hs;omega
 have C:∀x:sM w,jV jI 141 #[ny (s.extract 24 (24+N)),ny (s.extract 20 24)] x.at_ λe w'=>e=nE (nA (Rx (s.extract 24 (24+N)) (s.extract 20 24)))/\jS x.at_.heap.size x.at_ w':=λx=>Pw (s.extract 24 (24+N)) (s.extract 20 24) x.at_ (by simp[kz];omega)
 have C:=jH C;have I:=jH (λ(b:Bool) (x:sM w)=>(uq b 10 x.at_).mono λe w' ⟨he,J⟩=>(⟨he,J▸jT _ _⟩:_/\jS x.at_.heap.size x.at_ w'));have V:∀x:sM w,x.at_.cell? ⟨ps,0,none⟩=some (ny s):=λx=>(x.is.cell (p:=⟨ps,0,none⟩) h0).trans c0
 have Y:∀x:sM w,x.at_.cell? ⟨A,0,none⟩=some (ng nH (N:Int)):=λx=>(x.is.cell (p:=⟨A,0,none⟩) E).trans c1
 generalize Rx (s.extract 24 (24+N)) (s.extract 20 24)=B at*;clear c0 c1 hs;go_in;go_upto_region 1 with fail;refine oC nM nM ?_;repeat(go_big_quiet_step (first|(go_at_call 141;exact Calls.after (C _))|(go_at_call 134;exact Calls.after (I _ _))))
 refine mJ ?_;intro x;go_wp2_with fail;go_returns;exact⟨rfl,x.is⟩
end
end Go.Proofs.YtamfcjmhnndbdaaGreatDoor


