/- Part 4 of the proof. -/
import Derived.Test.YtamfcjmhnndbdaaGreatDoorZm00
import Derived.Test.YtamfcjmhnndbdaaGreatDoorZm03
import Derived.Deep.RegionHeld3
import Derived.Laws.EntriesVeiled
import Derived.WalkSpells
import Derived.Deep.WholeRow
import Derived.OwnWalk
import Derived.Lib.Strings
import Derived.WalkLawsBesides
import Derived.Deep.CutBlock
import Derived.Deep.DeepCutAuto
open Go.Value renaming agg→nD,bool→nC,int→nk,pointer→nA,slice→ny,string→nz,tuple→nE,int→lQ
open Go.Obj renaming cells→nH
open Go.IntKind renaming i64→nI,u32→nK,u64→nJ
open Go.Ending renaming returned→nG,returned→lJ
open Go.Lib renaming hid→jH
open Go.Proofs.Tryz renaming prog→jI,underlying86→l6,underlying9→mH
open Go renaming World→jJ,Value→jP,Calls→jV,bodyPost_ret→jZ,maxLen→j3,TypeId→ko,results→kQ,wpAnyH_take→kU,wpAnyH_ready→lS,wpQuiet_nil→mK
open Nat renaming le_refl→jK,le_trans→jY,zero_le→kH,le_of_eq→mR
open List renaming setIfInBounds_toArray→jL,getElem?_cons_succ→jM,getElem?_cons_zero→jN,getElem?_toArray→jO,set_cons_zero→jQ,set_cons_succ→jR,length_append→j5,take_succ_cons→ky,length_cons→kF,take_zero→kL,length_drop→kX,replicate→lh,range→l5,length_take→mi,append_assoc→mG,size_toArray→mP,map_cons→mQ,drop_succ_cons→mW
open Go.RowKit renaming Below→jS,Hid→jX,intOf→kT
open Go.RowKit.Below renaming refl→jT,heap_setCell→j6
open And renaming intro→jU
open UInt8 renaming ofNat→kg
open ByteArray renaming size_extract→kC
open Go.Act renaming put→kE
open Or renaming inl→kP
open Go.Instr renaming index→kS,makeFunc→mJ
open Go.AllReadyH renaming cons→kW,nil→lq
open Array renaming length_toList→kY,replicate→lD
open Go.Lit renaming int→lI
open Option renaming none→V,some→U
open Go.Addr renaming mk→Z
namespace Go.Proofs.YtamfcjmhnndbdaaGreatDoor
set_option linter.unusedVariables false
set_option linter.unusedSimpArgs false
set_option maxRecDepth 100000
set_option maxHeartbeats 8000000
variable {k b p:Nat}{w:jJ}{t:ko}{L:List UInt8}
section
open Go.RowKit Go.Shelf
attribute [local go_sem] Oper.semAt_some
theorem a3i(h:k<8):k=0\/k=1\/k=2\/k=3\/k=4\/k=5\/k=6\/k=7:=nL
theorem a3j(s t:S8)(h:k<8):(a0C s t k)[k]? =U (nk nK ((s.get k).toNat:Int)):=by
 rcases a3i h with rfl|rfl|rfl|rfl|rfl|rfl|rfl|rfl<;>rfl
theorem a0D(s t:S8)(h:k<8):(a0C s t k).setIfInBounds k (nk nK ((s.get k+t.get k).toNat:Int))=a0C s t (k+1):=by
 rcases a3i h with rfl|rfl|rfl|rfl|rfl|rfl|rfl|rfl<;>rfl
theorem a5Q(T:S8)(h:k<8)(w:jJ):(kS 31 (nD #[nk nK (T.a.toNat:Int),nk nK (T.b.toNat:Int),nk nK (T.c.toNat:Int),nk nK (T.d.toNat:Int),nk nK (T.e.toNat:Int),nk nK (T.f.toNat:Int),nk nK (T.g.toNat:Int),nk nK (T.h.toNat:Int)]) (nk nI k)).run jI w=.ok (nk nK ((T.get k).toNat:Int)) w:=by
 rcases a3i h with rfl|rfl|rfl|rfl|rfl|rfl|rfl|rfl<;>rfl
theorem Rt(st:S8)(s:ByteArray)(w:jJ)(hs:s.size=64):
  jV jI 254 #[nD st.cs,nz s] w λe w'=>e=nG (nD (Mo st s.data.toList).cs)/\jS w.heap.size w w':=by
 refine(callsIn_wide (n:=8)).1 ?_;refine callsIn_of_wp_marks Tryz.func254 rfl trivial ?_ rfl;simp only[Tryz.ntmps254,mP,kF,List.length_nil,Nat.reduceAdd,Nat.reduceSub,Array.replicate_succ,Array.replicate_zero,List.push_toArray,List.append_toArray,List.nil_append,List.cons_append];refine wpIn_wide.2 ?_;go_upto_region 1 with fail;obtain⟨b0,hb0⟩:=nV w.heap.size;refine uR (λW=>jS b0 w W/\W.heap.size=b0+2/\nP W b0 st.cs 31/\nP W (b0+1) (lD 8 (nk nK 0)) 31) ?_ ?_
 .refine⟨((jT _ _).alloc nL _).alloc nT _,by simp[hb0],(hb0▸nP.new w _ _).alloc _,?_⟩
  have:=nP.new (w.alloc (nH st.cs 31)) (lD 8 (nk nK 0)) 31;rwa [World.size_alloc,hb0]at this
 rintro W ⟨aG,hsz,hst,ae⟩;have aO:=jH hsz;have dw:=jH hb0;clear hsz;rw[hb0];clear hb0;go_upto_region 2 with fail;refine uR (λO=>jS b0 w O/\O.heap.size=b0+3/\nP O b0 st.cs 31/\nP O (b0+1) (lD 8 (nk nK 0)) 31/\nP O (b0+2) #[.func (.func 272) #[] #[]] 302) ?_ ?_
 .have e:=aO.out
  refine⟨aG.alloc nL _,by simp[e],hst.alloc _,ae.alloc _,?_⟩;have:=nP.new W #[.func (.func 272) #[] #[]] 302;rwa [e]at this
 rw[aO.out];clear aO hst ae aG W;rintro W ⟨aG,hsz,hst,ae,bG⟩;refine Iy ?_;refine wp_region_held_drew (S:=λw'=>nP w' b0 st.cs 31) nN (nP.drew hst) (λA=> ?_);refine kU (i:=0) (oi:= ?oi0) (v:= ?v0) ?hi0 nN nN nN ?hQ0 (kP ⟨?hw0,?hy0⟩) A ?a5R;case hi0=>simp only[jO,jM,jN];rfl
 case hQ0=>exact λ_ _ _ h=>h
 case hw0=>rfl
 case hy0=>(intro w C;go_simp;try rfl)
 simp only[kE,jL,jQ,jR];refine kU (i:=1) (oi:= ?oi1) (v:= ?v1) ?hi1 nN nN nN ?hQ1 (kP ⟨?hw1,?hy1⟩) A ?a5S;case hi1=>simp only[jO,jM,jN];rfl
 case hQ1=>exact λ_ _ _ h=>h
 case hw1=>rfl
 case hy1=>(intro w C;have hc:w.cell? (Z _ 0 V)=U (nk nK (st.a.toNat:Int)):=C.cell 0;go_simp;try rfl)
 simp only[kE,jL,jQ,jR];refine kU (i:=2) (oi:= ?oi2) (v:= ?v2) ?hi2 nN nN nN ?hQ2 (kP ⟨?hw2,?hy2⟩) A ?a5T;case hi2=>simp only[jO,jM,jN];rfl
 case hQ2=>exact λ_ _ _ h=>h
 case hw2=>rfl
 case hy2=>(intro w C;go_simp;try rfl)
 simp only[kE,jL,jQ,jR];refine kU (i:=3) (oi:= ?oi3) (v:= ?v3) ?hi3 nN nN nN ?hQ3 (kP ⟨?hw3,?hy3⟩) A ?a5U;case hi3=>simp only[jO,jM,jN];rfl
 case hQ3=>exact λ_ _ _ h=>h
 case hw3=>rfl
 case hy3=>(intro w C;have hc:w.cell? (Z _ 1 V)=U (nk nK (st.b.toNat:Int)):=C.cell 1;go_simp;try rfl)
 simp only[kE,jL,jQ,jR];refine kU (i:=4) (oi:= ?oi4) (v:= ?v4) ?hi4 nN nN nN ?hQ4 (kP ⟨?hw4,?hy4⟩) A ?a5V;case hi4=>simp only[jO,jM,jN];rfl
 case hQ4=>exact λ_ _ _ h=>h
 case hw4=>rfl
 case hy4=>(intro w C;go_simp;try rfl)
 simp only[kE,jL,jQ,jR];refine kU (i:=5) (oi:= ?oi5) (v:= ?v5) ?hi5 nN nN nN ?hQ5 (kP ⟨?hw5,?hy5⟩) A ?a5W;case hi5=>simp only[jO,jM,jN];rfl
 case hQ5=>exact λ_ _ _ h=>h
 case hw5=>rfl
 case hy5=>(intro w C;have hc:w.cell? (Z _ 2 V)=U (nk nK (st.c.toNat:Int)):=C.cell 2;go_simp;try rfl)
 simp only[kE,jL,jQ,jR];refine kU (i:=6) (oi:= ?oi6) (v:= ?v6) ?hi6 nN nN nN ?hQ6 (kP ⟨?hw6,?hy6⟩) A ?b3y;case hi6=>simp only[jO,jM,jN];rfl
 case hQ6=>exact λ_ _ _ h=>h
 case hw6=>rfl
 case hy6=>(intro w C;go_simp;try rfl)
 simp only[kE,jL,jQ,jR];refine kU (i:=7) (oi:= ?oi7) (v:= ?v7) ?hi7 nN nN nN ?hQ7 (kP ⟨?hw7,?hy7⟩) A ?b3z;case hi7=>simp only[jO,jM,jN];rfl
 case hQ7=>exact λ_ _ _ h=>h
 case hw7=>rfl
 case hy7=>(intro w C;have hc:w.cell? (Z _ 3 V)=U (nk nK (st.d.toNat:Int)):=C.cell 3;go_simp;try rfl)
 simp only[kE,jL,jQ,jR];refine kU (i:=8) (oi:= ?oi8) (v:= ?v8) ?hi8 nN nN nN ?hQ8 (kP ⟨?hw8,?hy8⟩) A ?a5X;case hi8=>simp only[jO,jM,jN];rfl
 case hQ8=>exact λ_ _ _ h=>h
 case hw8=>rfl
 case hy8=>(intro w C;go_simp;try rfl)
 simp only[kE,jL,jQ,jR];refine kU (i:=9) (oi:= ?oi9) (v:= ?v9) ?hi9 nN nN nN ?hQ9 (kP ⟨?hw9,?hy9⟩) A ?b3B;case hi9=>simp only[jO,jM,jN];rfl
 case hQ9=>exact λ_ _ _ h=>h
 case hw9=>rfl
 case hy9=>(intro w C;have hc:w.cell? (Z _ 4 V)=U (nk nK (st.e.toNat:Int)):=C.cell 4;go_simp;try rfl)
 simp only[kE,jL,jQ,jR];refine kU (i:=10) (oi:= ?a8m) (v:= ?v10) ?a3k nN nN nN ?a3l (kP ⟨?a3m,?a3n⟩) A ?a3o;case a3k=>simp only[jO,jM,jN];rfl
 case a3l=>exact λ_ _ _ h=>h
 case a3m=>rfl
 case a3n=>(intro w C;go_simp;try rfl)
 simp only[kE,jL,jQ,jR];refine kU (i:=11) (oi:= ?a8n) (v:= ?v11) ?a3p nN nN nN ?a3q (kP ⟨?a3r,?a3s⟩) A ?a3t;case a3p=>simp only[jO,jM,jN];rfl
 case a3q=>exact λ_ _ _ h=>h
 case a3r=>rfl
 case a3s=>(intro w C;have hc:w.cell? (Z _ 5 V)=U (nk nK (st.f.toNat:Int)):=C.cell 5;go_simp;try rfl)
 simp only[kE,jL,jQ,jR];refine kU (i:=12) (oi:= ?a5Y) (v:= ?v12) ?Ws nN nN nN ?a8o (kP ⟨?a8p,?a8q⟩) A ?a8r;case Ws=>simp only[jO,jM,jN];rfl
 case a8o=>exact λ_ _ _ h=>h
 case a8p=>rfl
 case a8q=>(intro w C;go_simp;try rfl)
 simp only[kE,jL,jQ,jR];refine kU (i:=13) (oi:= ?b4B) (v:= ?v13) ?a8s nN nN nN ?a8t (kP ⟨?a8u,?a8v⟩) A ?a8w;case a8s=>simp only[jO,jM,jN];rfl
 case a8t=>exact λ_ _ _ h=>h
 case a8u=>rfl
 case a8v=>(intro w C;have hc:w.cell? (Z _ 6 V)=U (nk nK (st.g.toNat:Int)):=C.cell 6;go_simp;try rfl)
 simp only[kE,jL,jQ,jR];refine kU (i:=14) (oi:= ?b4C) (v:= ?v14) ?a8x nN nN nN ?a8y (kP ⟨?a8z,?a8A⟩) A ?a8B;case a8x=>simp only[jO,jM,jN];rfl
 case a8y=>exact λ_ _ _ h=>h
 case a8z=>rfl
 case a8A=>(intro w C;go_simp;try rfl)
 simp only[kE,jL,jQ,jR];refine kU (i:=15) (oi:= ?b4D) (v:= ?v15) ?a8C nN nN nN ?a8D (kP ⟨?a8E,?a8F⟩) A ?a8G;case a8C=>simp only[jO,jM,jN];rfl
 case a8D=>exact λ_ _ _ h=>h
 case a8E=>rfl
 case a8F=>(intro w C;have hc:w.cell? (Z _ 7 V)=U (nk nK (st.h.toNat:Int)):=C.cell 7;go_simp;try rfl)
 simp only[kE,jL,jQ,jR]
 refine MB (P:=jI) (T:=22) (z:=nk nK 0) (H:=b0+3) (fuel:=8) (w0:=W.drew) [(16,6),(17,7),(18,8),(19,9),(20,10),(21,11),(22,12),(23,13)] nO (mR hsz.symm)
  (Iw nN (λeU dst dx pos after w=>TV eU dst dx pos after w)) (Pg nN) (λw' h=>h.alloc _) ?_ 8 (λ_=>V) _ rfl A ⟨jT _ _,(λp hp b hb=>by cases hb),(λp hp q dz b hb=>by cases hb)⟩
 intro bs bg bH aP;simp only[p8,yI,FZ,kE,jL,jQ,jR];have Y:a5O b0 bs:=by
  refine⟨λi j hi av e=> ?_,λj av=>(aP.blk (16+j,6+j) (Au j av) _ rfl).1⟩;have:=aP.inj (16+i,6+i) (Au i hi) (16+j,6+j) (Au j av) (bs (16+j)) (by rw[<-e]) rfl;omega
 have hI:vH b0 bs st.cs w (λ_=>0) bg:=by
  have aQ:=aP.below;refine⟨aG.trans ?_,bH,Below.blk aQ ae nL,Below.blk aQ bG nL,λj av=>(aP.blk (16+j,6+j) (Au j av) _ rfl).2⟩;exact((jT b0 W).drew).trans (aQ.mono nL)
 clear aP bH A hst ae bG aG hsz W;refine lS (rs:=[24]) nN nS ?_;refine kW (o:= ?b4E) ?a8H (λK aa=> ?_) lq;case a8H=>simp only[jO,jM,jN];rfl
 have I:=hI.v 0 nO;have hc:bg.cell? (Z (bs 16) 0 V)=U (nk nK _):=I.cell 0;have aj:bg.frozen? (Z (bs 16) 0 V)=false:=I.free 0;clear I;have hh:=jH hI;clear hI;go_simp;have hI:=hh.set Y 0 nO st.a.toNat;clear hh;refine aa _ _ hI.st (λai=> ?_);clear aa K hc aj;try simp only[kE,jL,jQ,jR]
 refine vG _ hI ?_;clear hI ai bg;intro bX hI;refine lS (rs:=[25]) nN nS ?_;refine kW (o:= ?b4F) ?a8I (λK aa=> ?_) lq;case a8I=>simp only[jO,jM,jN];rfl
 have I:=hI.v 1 nO;have hc:bX.cell? (Z (bs 17) 0 V)=U (nk nK _):=I.cell 0;have aj:bX.frozen? (Z (bs 17) 0 V)=false:=I.free 0;clear I;have hh:=jH hI;clear hI;go_simp;have hI:=hh.set Y 1 nO st.b.toNat;clear hh;refine aa _ _ hI.st (λai=> ?_);clear aa K hc aj;try simp only[kE,jL,jQ,jR]
 refine vG _ hI ?_;clear hI ai bX;intro O hI;refine lS (rs:=[26]) nN nS ?_;refine kW (o:= ?b4G) ?a8J (λK aa=> ?_) lq;case a8J=>simp only[jO,jM,jN];rfl
 have I:=hI.v 2 nO;have hc:O.cell? (Z (bs 18) 0 V)=U (nk nK _):=I.cell 0;have aj:O.frozen? (Z (bs 18) 0 V)=false:=I.free 0;clear I;have hh:=jH hI;clear hI;go_simp;have hI:=hh.set Y 2 nO st.c.toNat;clear hh;refine aa _ _ hI.st (λai=> ?_);clear aa K hc aj;try simp only[kE,jL,jQ,jR]
 refine vG _ hI ?_;clear hI ai O;intro W3 hI;refine lS (rs:=[27]) nN nS ?_;refine kW (o:= ?b4H) ?hi27 (λK aa=> ?_) lq;case hi27=>simp only[jO,jM,jN];rfl
 have I:=hI.v 3 nO;have hc:W3.cell? (Z (bs 19) 0 V)=U (nk nK _):=I.cell 0;have aj:W3.frozen? (Z (bs 19) 0 V)=false:=I.free 0;clear I;have hh:=jH hI;clear hI;go_simp;have hI:=hh.set Y 3 nO st.d.toNat;clear hh;refine aa _ _ hI.st (λai=> ?_);clear aa K hc aj;try simp only[kE,jL,jQ,jR]
 refine vG _ hI ?_;clear hI ai W3;intro bY hI;refine lS (rs:=[28]) nN nS ?_;refine kW (o:= ?b4I) ?a8K (λK aa=> ?_) lq;case a8K=>simp only[jO,jM,jN];rfl
 have I:=hI.v 4 nO;have hc:bY.cell? (Z (bs 20) 0 V)=U (nk nK _):=I.cell 0;have aj:bY.frozen? (Z (bs 20) 0 V)=false:=I.free 0;clear I;have hh:=jH hI;clear hI;go_simp;have hI:=hh.set Y 4 nO st.e.toNat;clear hh;refine aa _ _ hI.st (λai=> ?_);clear aa K hc aj;try simp only[kE,jL,jQ,jR]
 refine vG _ hI ?_;clear hI ai bY;intro bZ hI;refine lS (rs:=[29]) nN nS ?_;refine kW (o:= ?b4J) ?a8L (λK aa=> ?_) lq;case a8L=>simp only[jO,jM,jN];rfl
 have I:=hI.v 5 nO;have hc:bZ.cell? (Z (bs 21) 0 V)=U (nk nK _):=I.cell 0;have aj:bZ.frozen? (Z (bs 21) 0 V)=false:=I.free 0;clear I;have hh:=jH hI;clear hI;go_simp;have hI:=hh.set Y 5 nO st.f.toNat;clear hh;refine aa _ _ hI.st (λai=> ?_);clear aa K hc aj;try simp only[kE,jL,jQ,jR]
 refine vG _ hI ?_;clear hI ai bZ;intro cz hI;refine lS (rs:=[30]) nN nS ?_;refine kW (o:= ?b4K) ?a8M (λK aa=> ?_) lq;case a8M=>simp only[jO,jM,jN];rfl
 have I:=hI.v 6 nO;have hc:cz.cell? (Z (bs 22) 0 V)=U (nk nK _):=I.cell 0;have aj:cz.frozen? (Z (bs 22) 0 V)=false:=I.free 0;clear I;have hh:=jH hI;clear hI;go_simp;have hI:=hh.set Y 6 nO st.g.toNat;clear hh;refine aa _ _ hI.st (λai=> ?_);clear aa K hc aj;try simp only[kE,jL,jQ,jR]
 refine vG _ hI ?_;clear hI ai cz;intro cK hI;refine lS (rs:=[31]) nN nS ?_;refine kW (o:= ?b4L) ?a8N (λK aa=> ?_) lq;case a8N=>simp only[jO,jM,jN];rfl
 have I:=hI.v 7 nO;have hc:cK.cell? (Z (bs 23) 0 V)=U (nk nK _):=I.cell 0;have aj:cK.frozen? (Z (bs 23) 0 V)=false:=I.free 0;clear I;have hh:=jH hI;clear hI;go_simp;have hI:=hh.set Y 7 nO st.h.toNat;clear hh;refine aa _ _ hI.st (λai=> ?_);clear aa K hc aj;try simp only[kE,jL,jQ,jR]
 refine vG _ hI ?_;clear hI ai cK;intro dA hI;refine wpAnyH_done nN ?_ _;have hI:vH b0 bs st.cs w st.at_ dA:=hI.congr (λj av=>by match j,av with|0,_=>rfl|1,_=>rfl|2,_=>rfl|3,_=>rfl|4,_=>rfl|5,_=>rfl|6,_=>rfl|7,_=>rfl);have aD:=jH hI;clear hI;go_wp2_with fail;refine(Pb s _).mono ?_;rintro e bq ⟨Bs,rfl,bI,ak,qN⟩;obtain⟨E,dB⟩:=nV dA.heap.size;rw[dB]at bI ak;have hlt:=λj av=>((aD.v j av).lt)
 rw[dB]at hlt;have aH:vH b0 bs st.cs w st.at_ bq:=aD.grown (E:=E) hlt (by have:=aD.cl.lt;omega) (row:=V) ⟨ak.os,ak.tape,ak.output,by have:=ak.size;omega,λi hi _=>ak.block i nL⟩ (λr h=>by cases h);have dC:b0+2<E:=by have:=aD.cl.lt;omega
 clear aD;unfold a5M;go_wp2_with fail;have aK:=Pf 7 Bs E s bq hs bI qN;have aR:Mo st s.data.toList=a0A st (yH s.data.toList st 64):=rfl;have bJ:yH s.data.toList st 0=st:=rfl;have bK:∀k,yH s.data.toList st (k+1)=Wj (yH s.data.toList st k) (kN k) (wS s.data.toList k):=λ_=>rfl
 have dD:E<=bq.heap.size:=by have:=ak.size;omega
 clear qN hI ak;generalize yH s.data.toList st=R at*;generalize wS s.data.toList=dE at*;have aH:=aH.congr (y:=(R 0).at_) (λj _=>by rw[bJ]);clear bJ;have dF:=jH aR;have dG:=jH bK;clear aR bK;refine wpIn_wide.1 (DN (n:=8) (E:=E) (N:=64) (encs:=Wp dE) (w0:=bq) rfl nO (gf:=283) (lb:=#[nA (U (Z Bs 0 V))]) rfl trivial ?eg aK (jT _ _) (λk=>rfl) (λk W=>vH b0 bs st.cs w (R k).at_ W) ?hI aH ?O8 ?hdone);case eg=>intro args w';rfl
 case hI=>exact λk W gm row hk hg eX=>hk.grown (E:=E) hlt dC hg (λr e=>by have:=eX r e;omega)
 case O8=>
  intro l k W hk hI;simp only[Wp,List.zip_toArray,List.zip_cons_cons,List.zip_nil_right,List.foldl_toArray,List.foldl_cons,List.foldl_nil,jL,jQ,jR]
  gi_wp2
  refine⟨trivial,λO af=> ?_⟩;have aS:=dG.out k;generalize dE k=wk at*;obtain⟨dH,aT⟩:=nV (R k);rw[aT]at aS;have af:vH b0 bs st.cs w dH.at_ O:=af.congr (λj _=>by rw[aT]);clear aT;obtain⟨a,b,c,d,e,f,g,h⟩:=dH;have c0:O.cell? (Z (bs 16) 0 V)=U (nk nK (a.toNat:Int)):=(af.v 0 nO).cell 0;have c1:O.cell? (Z (bs 17) 0 V)=U (nk nK (b.toNat:Int)):=(af.v 1 nO).cell 0;have c2:O.cell? (Z (bs 18) 0 V)=U (nk nK (c.toNat:Int)):=(af.v 2 nO).cell 0;have c3:O.cell? (Z (bs 19) 0 V)=U (nk nK (d.toNat:Int)):=(af.v 3 nO).cell 0;have c4:O.cell? (Z (bs 20) 0 V)=U (nk nK (e.toNat:Int)):=(af.v 4 nO).cell 0;have c5:O.cell? (Z (bs 21) 0 V)=U (nk nK (f.toNat:Int)):=(af.v 5 nO).cell 0;have c6:O.cell? (Z (bs 22) 0 V)=U (nk nK (g.toNat:Int)):=(af.v 6 nO).cell 0;have c7:O.cell? (Z (bs 23) 0 V)=U (nk nK (h.toNat:Int)):=(af.v 7 nO).cell 0;have gp:O.cell? (Z (b0+2) 0 V)=U (.func (.func 272) #[] #[]):=af.cl.cell 0;have aU:=jH af;have dI:=jH aS;have au:=jH hlt;clear af aS hI aK aH hlt
  gi_upto_region 8 with(refine⟨trivial,?_⟩;skip)
  simp only[a5E,a5P,I4];have dJ:(e&&&f)^^^(~~~e&&&g)=(e&&&f)^^^(~~~e&&&g):=rfl;have dK:(a&&&b)^^^(a&&&c)^^^(b&&&c)=(a&&&b)^^^(a&&&c)^^^(b&&&c):=rfl;generalize aV:(e&&&f)^^^(~~~e&&&g)=ch;generalize aW:(a&&&b)^^^(a&&&c)^^^(b&&&c)=eY;have aV:=jH aV;have aW:=jH aW;clear dJ dK;refine DR l nN nN nN ?hL ?_;case hL=>rintro⟨gq,w',dz⟩;exact absurd dz.1 (λe=>by cases e)
  repeat(go_big_quiet_step (first
   |(go_at_call 275;exact Calls.VQ (Ga _ _ _ _ _ nO nO nO))
   |(go_at_call 272;exact Calls.quiet_of (TW _ _ hk))))
  refine mK ?_;intro bu
  gi_upto_region 9 with(refine⟨trivial,?_⟩;skip)
  have dL:((((h.toNat:Int)+((TM e 6 11 25).toNat:Int)+((kN k).toNat:Int)+(wk.toNat:Int)) % 4294967296+(ch.toNat:Int)) % 4294967296)=((Mm ⟨a,b,c,d,e,f,g,h⟩ (kN k) wk).toNat:Int):=by
   unfold Mm;simp only;rw[aV.out,<-zD,<-zD,<-zD,<-zD];omega
  rw[dL];generalize aX:Mm ⟨a,b,c,d,e,f,g,h⟩ (kN k) wk=P;have aX:=jH aX;clear dL
  gi_upto_region 10 with(refine⟨trivial,CallsIn.mono (CallsIn.inRound l (callsIn_wide.2 (Ga a 2 13 22 _ nO nO nO))) ?_⟩;rintro en w' ⟨rfl,rfl⟩)
  have dM:((((TM a 2 13 22).toNat:Int)+(eY.toNat:Int)) % 4294967296)=((Rq ⟨a,b,c,d,e,f,g,h⟩).toNat:Int):=by
   unfold Rq;simp only;rw[aW.out,<-zD]
  rw[dM];generalize aY:Rq ⟨a,b,c,d,e,f,g,h⟩=bz;have aY:=jH aY;clear dM;have bL:=jH (aU.drewN bu);have bM:KeepsFrom E O (O.drewN bu)/\LJ E O (O.drewN bu):=⟨KeepsFrom.of_grownBy (row:=V) ⟨rfl,rfl,rfl,jK _,λ_ _ _=>rfl⟩ (λ_ h=>by cases h),LJ.refl _ _⟩;have gu:O.frozen? (Z (bs 16) 0 V)=false:=(aU.v 0 nO).free 0;have f1:O.frozen? (Z (bs 17) 0 V)=false:=(aU.v 1 nO).free 0;repeat(first|gi_guarded|gi_step|gi_upon)
  generalize fJ:O.drewN bu=eZ at bL bM⊢;have ax:=bL.set Y 0 nO (((P.toNat:Int)+(bz.toNat:Int)) % 4294967296);have bN:=ug (E:=E) bM (b:=bs 16) (au 0 nO) (nk nK (((P.toNat:Int)+(bz.toNat:Int)) % 4294967296));generalize dN:eZ.setCell (Z (bs 16) 0 V) (nk nK (((P.toNat:Int)+(bz.toNat:Int)) % 4294967296))=bA at bN⊢;have ax:vH b0 bs st.cs w _ bA:=dN▸ax;have gy:bA.cell? (Z (bs 17) 0 V)=U (nk nK _):=(ax.v 1 nO).cell 0;have f2:bA.frozen? (Z (bs 18) 0 V)=false:=(ax.v 2 nO).free 0;have dO:=jH ax;clear ax;go_simp;repeat(first|gi_guarded|gi_step|gi_upon)
  have ay:=dO.set Y 1 nO (a.toNat:Int);have bO:=ug (E:=E) bN (b:=bs 17) (au 1 nO) (nk nK (a.toNat:Int));generalize dP:bA.setCell (Z (bs 17) 0 V) (nk nK (a.toNat:Int))=bB at bO⊢;have ay:vH b0 bs st.cs w _ bB:=dP▸ay;have gz:bB.cell? (Z (bs 18) 0 V)=U (nk nK _):=(ay.v 2 nO).cell 0;have f3:bB.frozen? (Z (bs 19) 0 V)=false:=(ay.v 3 nO).free 0;have dQ:=jH ay;clear ay;go_simp;repeat(first|gi_guarded|gi_step|gi_upon)
  have az:=dQ.set Y 2 nO (b.toNat:Int);have bP:=ug (E:=E) bO (b:=bs 18) (au 2 nO) (nk nK (b.toNat:Int));generalize dR:bB.setCell (Z (bs 18) 0 V) (nk nK (b.toNat:Int))=bC at bP⊢;have az:vH b0 bs st.cs w _ bC:=dR▸az;have gB:bC.cell? (Z (bs 19) 0 V)=U (nk nK _):=(az.v 3 nO).cell 0;have f4:bC.frozen? (Z (bs 20) 0 V)=false:=(az.v 4 nO).free 0;have dS:=jH az;clear az;go_simp;repeat(first|gi_guarded|gi_step|gi_upon)
  have aA:=dS.set Y 3 nO (c.toNat:Int);have bQ:=ug (E:=E) bP (b:=bs 19) (au 3 nO) (nk nK (c.toNat:Int));generalize dU:bC.setCell (Z (bs 19) 0 V) (nk nK (c.toNat:Int))=bD at bQ⊢;have aA:vH b0 bs st.cs w _ bD:=dU▸aA;have gD:bD.cell? (Z (bs 20) 0 V)=U (nk nK _):=(aA.v 4 nO).cell 0;have gF:bD.frozen? (Z (bs 21) 0 V)=false:=(aA.v 5 nO).free 0;have dV:=jH aA;clear aA;go_simp;repeat(first|gi_guarded|gi_step|gi_upon)
  have aB:=dV.set Y 4 nO (((d.toNat:Int)+(P.toNat:Int)) % 4294967296);have bR:=ug (E:=E) bQ (b:=bs 20) (au 4 nO) (nk nK (((d.toNat:Int)+(P.toNat:Int)) % 4294967296));generalize dW:bD.setCell (Z (bs 20) 0 V) (nk nK (((d.toNat:Int)+(P.toNat:Int)) % 4294967296))=bE at bR⊢;have aB:vH b0 bs st.cs w _ bE:=dW▸aB;have gG:bE.cell? (Z (bs 21) 0 V)=U (nk nK _):=(aB.v 5 nO).cell 0;have gH:bE.frozen? (Z (bs 22) 0 V)=false:=(aB.v 6 nO).free 0;have dX:=jH aB;clear aB;go_simp;repeat(first|gi_guarded|gi_step|gi_upon)
  have aC:=dX.set Y 5 nO (e.toNat:Int);have bS:=ug (E:=E) bR (b:=bs 21) (au 5 nO) (nk nK (e.toNat:Int));generalize dY:bE.setCell (Z (bs 21) 0 V) (nk nK (e.toNat:Int))=bF at bS⊢;have aC:vH b0 bs st.cs w _ bF:=dY▸aC;have gI:bF.cell? (Z (bs 22) 0 V)=U (nk nK _):=(aC.v 6 nO).cell 0;have gJ:bF.frozen? (Z (bs 23) 0 V)=false:=(aC.v 7 nO).free 0;have dZ:=jH aC;clear aC;go_simp;repeat(first|gi_guarded|gi_step|gi_upon)
  have aI:=dZ.set Y 6 nO (f.toNat:Int);have bT:=ug (E:=E) bS (b:=bs 22) (au 6 nO) (nk nK (f.toNat:Int));generalize ed:bF.setCell (Z (bs 22) 0 V) (nk nK (f.toNat:Int))=cZ at bT⊢;have aI:vH b0 bs st.cs w _ cZ:=ed▸aI;have gK:cZ.cell? (Z (bs 23) 0 V)=U (nk nK _):=(aI.v 7 nO).cell 0;have ek:=jH aI;clear aI;go_simp;repeat(first|gi_guarded|gi_step|gi_upon)
  have aL:=ek.set Y 7 nO (g.toNat:Int);have aM:=ug (E:=E) bT (b:=bs 23) (au 7 nO) (nk nK (g.toNat:Int));generalize eu:cZ.setCell (Z (bs 23) 0 V) (nk nK (g.toNat:Int))=fq at aM⊢;have aL:vH b0 bs st.cs w _ fq:=eu▸aL;have eB:=jH aL;clear aL;refine⟨rfl,⟨aM.1.size,λi o hi=>aM.1.same i o (jY dD hi)⟩,aM.2,eB.congr (λj av=> ?_)⟩;rw[dI.out];unfold Wj;rw[aX.out,aY.out]
  match j,av with
  |0,_=>exact zD P bz
  |1,_=>rfl
  |2,_=>rfl
  |3,_=>rfl
  |4,_=>exact zD d P
  |5,_=>rfl
  |6,_=>rfl
  |7,_=>rfl
 case hdone=>
  intro D W gL hI eD;obtain⟨T,df⟩:=nV (R 64);have hI:vH b0 bs st.cs w T.at_ W:=hI.congr (λj _=>by rw[df]);have dh:=dF.out;rw[df]at dh;have c0:W.cell? (Z (bs 16) 0 V)=U (nk nK (T.a.toNat:Int)):=(hI.v 0 nO).cell 0;have c1:W.cell? (Z (bs 17) 0 V)=U (nk nK (T.b.toNat:Int)):=(hI.v 1 nO).cell 0;have c2:W.cell? (Z (bs 18) 0 V)=U (nk nK (T.c.toNat:Int)):=(hI.v 2 nO).cell 0;have c3:W.cell? (Z (bs 19) 0 V)=U (nk nK (T.d.toNat:Int)):=(hI.v 3 nO).cell 0;have c4:W.cell? (Z (bs 20) 0 V)=U (nk nK (T.e.toNat:Int)):=(hI.v 4 nO).cell 0;have c5:W.cell? (Z (bs 21) 0 V)=U (nk nK (T.f.toNat:Int)):=(hI.v 5 nO).cell 0;have c6:W.cell? (Z (bs 22) 0 V)=U (nk nK (T.g.toNat:Int)):=(hI.v 6 nO).cell 0;have c7:W.cell? (Z (bs 23) 0 V)=U (nk nK (T.h.toNat:Int)):=(hI.v 7 nO).cell 0;have aD:=jH hI;have eF:=jH eD;have bU:=jH dh;clear hI eD dh df dF dG aK aH hlt;go_wp2_with fail;go_loopw [98] (λi wr=>∃k:Nat,k<=8/\i=nk nI k/\jS b0 w wr/\nP wr b0 (a0C st T k) 31/\nP wr (b0+1) (lD 8 (nk nK 0)) 31/\wr.heap[D]? =U (.deferred (U []))) (λi _=>8 -(kT i).toNat);case atStart=>exact⟨0,nL,rfl,aD.below,aD.st,aD.res,eF.out⟩
  case round=>
   obtain⟨k,hk,rfl,hB,hst,ae,hd⟩:=hrel;have eG:=jH hB;have eH:=jH hd;clear hB hd;by_cases aN:k<8
   .have c:wr.cell? (Z b0 k V)=U (nk nK ((st.get k).toNat:Int)):=(hst.cell k).trans (a3j st T aN)
    have f:wr.frozen? (Z b0 k V)=false:=hst.free k;have ai:∀w',(kS 31 (nD #[nk nK (T.a.toNat:Int),nk nK (T.b.toNat:Int),nk nK (T.c.toNat:Int),nk nK (T.d.toNat:Int),nk nK (T.e.toNat:Int),nk nK (T.f.toNat:Int),nk nK (T.g.toNat:Int),nk nK (T.h.toNat:Int)]) (nk nI k)).run jI w'=.ok (nk nK ((T.get k).toNat:Int)) w':=λw'=>a5Q T aN w'
    have fu:=jH hst;have eO:=jH ae;have gM:=jH aN;have fK:(k:Int)<8:=nL;clear hst ae;have eP:=jH (a0D st T aN);generalize st.get k=fw at*;generalize T.get k=fA at*;go_wp2_with fail;rw[zD];go_roundw;case rel=>exact⟨k+1,nL,by go_num,eG.setCell (jK _) _,by have:=fu.set k (nk nK ((fw+fA).toNat:Int));rw[eP.out]at this;exact this,eO.setOther nS _,(j6 _ _ _ _ nT).trans eH.out⟩
    case measure=>simp[kT];omega
   .obtain rfl:k=8:=nL
    have hst:nP wr b0 (a0A st T).cs 31:=hst;have J:nP wr (b0+1) #[nk nK 0,nk nK 0,nk nK 0,nk nK 0,nk nK 0,nk nK 0,nk nK 0,nk nK 0] 31:=ae;have bV:=bU.out;generalize a0A st T=Q at*;have z0:wr.cell? (Z b0 0 V)=U (nk nK (Q.a.toNat:Int)):=hst.cell 0;have r0:wr.cell? (Z (b0+1) 0 V)=U (nk nK 0):=J.cell 0;have fM:wr.frozen? (Z (b0+1) 0 V)=false:=J.free 0;have gN:wr.cell? (Z b0 1 V)=U (nk nK (Q.b.toNat:Int)):=hst.cell 1;have r1:wr.cell? (Z (b0+1) 1 V)=U (nk nK 0):=J.cell 1;have fO:wr.frozen? (Z (b0+1) 1 V)=false:=J.free 1;have gP:wr.cell? (Z b0 2 V)=U (nk nK (Q.c.toNat:Int)):=hst.cell 2;have r2:wr.cell? (Z (b0+1) 2 V)=U (nk nK 0):=J.cell 2;have fP:wr.frozen? (Z (b0+1) 2 V)=false:=J.free 2;have z3:wr.cell? (Z b0 3 V)=U (nk nK (Q.d.toNat:Int)):=hst.cell 3;have r3:wr.cell? (Z (b0+1) 3 V)=U (nk nK 0):=J.cell 3;have fQ:wr.frozen? (Z (b0+1) 3 V)=false:=J.free 3;have z4:wr.cell? (Z b0 4 V)=U (nk nK (Q.e.toNat:Int)):=hst.cell 4;have r4:wr.cell? (Z (b0+1) 4 V)=U (nk nK 0):=J.cell 4;have fT:wr.frozen? (Z (b0+1) 4 V)=false:=J.free 4;have z5:wr.cell? (Z b0 5 V)=U (nk nK (Q.f.toNat:Int)):=hst.cell 5;have gQ:wr.cell? (Z (b0+1) 5 V)=U (nk nK 0):=J.cell 5;have fU:wr.frozen? (Z (b0+1) 5 V)=false:=J.free 5;have gT:wr.cell? (Z b0 6 V)=U (nk nK (Q.g.toNat:Int)):=hst.cell 6;have gU:wr.cell? (Z (b0+1) 6 V)=U (nk nK 0):=J.cell 6;have fV:wr.frozen? (Z (b0+1) 6 V)=false:=J.free 6;have gV:wr.cell? (Z b0 7 V)=U (nk nK (Q.h.toNat:Int)):=hst.cell 7;have gW:wr.cell? (Z (b0+1) 7 V)=U (nk nK 0):=J.cell 7;have fZ:wr.frozen? (Z (b0+1) 7 V)=false:=J.free 7;have eQ:=jH bV;clear bV bU ae;have eT:=jH J;clear J hst;go_wp2_with fail;have hF:=((((((((eT.set 0 (nk nK (Q.a.toNat:Int))).set 1 (nk nK (Q.b.toNat:Int))).set 2 (nk nK (Q.c.toNat:Int))).set 3 (nk nK (Q.d.toNat:Int))).set 4 (nk nK (Q.e.toNat:Int))).set 5 (nk nK (Q.f.toNat:Int))).set 6 (nk nK (Q.g.toNat:Int))).set 7 (nk nK (Q.h.toNat:Int)));have aZ:=(uh (uh (uh (uh (uh (uh (uh (uh eG 0 (nk nK (Q.a.toNat:Int))) 1 (nk nK (Q.b.toNat:Int))) 2 (nk nK (Q.c.toNat:Int))) 3 (nk nK (Q.d.toNat:Int))) 4 (nk nK (Q.e.toNat:Int))) 5 (nk nK (Q.f.toNat:Int))) 6 (nk nK (Q.g.toNat:Int))) 7 (nk nK (Q.h.toNat:Int)));have ag:D≠b0+1:=nL;have ah:=eH.out;rw[<-j6 _ (Z (b0+1) 0 V) (nk nK (Q.a.toNat:Int)) D (by simpa using ag)]at ah;rw[<-j6 _ (Z (b0+1) 1 V) (nk nK (Q.b.toNat:Int)) D (by simpa using ag)]at ah;rw[<-j6 _ (Z (b0+1) 2 V) (nk nK (Q.c.toNat:Int)) D (by simpa using ag)]at ah;rw[<-j6 _ (Z (b0+1) 3 V) (nk nK (Q.d.toNat:Int)) D (by simpa using ag)]at ah;rw[<-j6 _ (Z (b0+1) 4 V) (nk nK (Q.e.toNat:Int)) D (by simpa using ag)]at ah;rw[<-j6 _ (Z (b0+1) 5 V) (nk nK (Q.f.toNat:Int)) D (by simpa using ag)]at ah;rw[<-j6 _ (Z (b0+1) 6 V) (nk nK (Q.g.toNat:Int)) D (by simpa using ag)]at ah;rw[<-j6 _ (Z (b0+1) 7 V) (nk nK (Q.h.toNat:Int)) D (by simpa using ag)]at ah;simp only[jL,jQ,jR]at hF;revert hF aZ ah;generalize ((((((((wr.setCell (Z (b0+1) 0 V) (nk nK (Q.a.toNat:Int))).setCell (Z (b0+1) 1 V) (nk nK (Q.b.toNat:Int))).setCell (Z (b0+1) 2 V) (nk nK (Q.c.toNat:Int))).setCell (Z (b0+1) 3 V) (nk nK (Q.d.toNat:Int))).setCell (Z (b0+1) 4 V) (nk nK (Q.e.toNat:Int))).setCell (Z (b0+1) 5 V) (nk nK (Q.f.toNat:Int))).setCell (Z (b0+1) 6 V) (nk nK (Q.g.toNat:Int))).setCell (Z (b0+1) 7 V) (nk nK (Q.h.toNat:Int)))=wf;intro aZ ah hF;have hF:nP wf (b0+1) Q.cs 31:=hF;refine⟨nS,.inl ⟨_,_,rfl,run_takeDeferred ah,?_⟩⟩;have aF:nP (wf.putObj D (.deferred V)) (b0+1) Q.cs 31:=(World.putObj_heap_other nL).trans hF;have bW:jS b0 w (wf.putObj D (.deferred V)):=aZ.grown (grownBy_putObj' wf D _) (by have:=hF.lt;omega) (λk hk=>by cases hk;omega);generalize wf.putObj D (.deferred V)=aJ at aF bW⊢;have fB:aJ.cell? (Z (b0+1) 0 V)=U (nk nK (Q.a.toNat:Int)):=aF.cell 0;have fC:aJ.cell? (Z (b0+1) 1 V)=U (nk nK (Q.b.toNat:Int)):=aF.cell 1;have fD:aJ.cell? (Z (b0+1) 2 V)=U (nk nK (Q.c.toNat:Int)):=aF.cell 2;have fE:aJ.cell? (Z (b0+1) 3 V)=U (nk nK (Q.d.toNat:Int)):=aF.cell 3;have fF:aJ.cell? (Z (b0+1) 4 V)=U (nk nK (Q.e.toNat:Int)):=aF.cell 4;have fG:aJ.cell? (Z (b0+1) 5 V)=U (nk nK (Q.f.toNat:Int)):=aF.cell 5;have fH:aJ.cell? (Z (b0+1) 6 V)=U (nk nK (Q.g.toNat:Int)):=aF.cell 6;have fI:aJ.cell? (Z (b0+1) 7 V)=U (nk nK (Q.h.toNat:Int)):=aF.cell 7;refine⟨nD Q.cs,?_,?_⟩
    .unfold S8.cs
     simp[kQ,Tryz.results254,go_sem,fB,fC,fD,fE,fF,fG,fH,fI]
    .rw[dw.out]
     exact⟨by rw[eQ.out],bW⟩
theorem I8:pX jI 86 5 9:=⟨l6,Tryz.underlying5,mH,nN⟩
def a3u(w:jJ)(b:Nat)(A:S8):jJ:=
 (((((((w.setCell (Z b 0 V) (nk nK (A.a.toNat:Int))).setCell (Z b 1 V) (nk nK (A.b.toNat:Int))).setCell (Z b 2 V) (nk nK (A.c.toNat:Int))).setCell (Z b 3 V) (nk nK (A.d.toNat:Int))).setCell (Z b 4 V) (nk nK (A.e.toNat:Int))).setCell (Z b 5 V) (nk nK (A.f.toNat:Int))).setCell (Z b 6 V) (nk nK (A.g.toNat:Int))).setCell (Z b 7 V) (nk nK (A.h.toNat:Int))
theorem ME{C:S8}(h:nP w b C.cs t)(A:S8):nP (a3u w b A) b A.cs t:=by
 unfold S8.cs at*;unfold a3u;have:=(((((((h.set 0 (nk nK (A.a.toNat:Int))).set 1 (nk nK (A.b.toNat:Int))).set 2 (nk nK (A.c.toNat:Int))).set 3 (nk nK (A.d.toNat:Int))).set 4 (nk nK (A.e.toNat:Int))).set 5 (nk nK (A.f.toNat:Int))).set 6 (nk nK (A.g.toNat:Int))).set 7 (nk nK (A.h.toNat:Int));simp only[jL,jQ,jR]at this;exact this
theorem Gb{B:Nat}{w0:jJ}(h:jS B w0 w)(hb:B<=b)(A:S8):jS B w0 (a3u w b A):=
 (((((((h.setCell hb _).setCell hb _).setCell hb _).setCell hb _).setCell hb _).setCell hb _).setCell hb _).setCell hb _
theorem nP.eight{A:S8}(h:nP w b A.cs t):
  w.cell? (Z b 0 V)=U (nk nK (A.a.toNat:Int))/\w.cell? (Z b 1 V)=U (nk nK (A.b.toNat:Int))/\w.cell? (Z b 2 V)=U (nk nK (A.c.toNat:Int))/\w.cell? (Z b 3 V)=U (nk nK (A.d.toNat:Int))/\
  w.cell? (Z b 4 V)=U (nk nK (A.e.toNat:Int))/\w.cell? (Z b 5 V)=U (nk nK (A.f.toNat:Int))/\w.cell? (Z b 6 V)=U (nk nK (A.g.toNat:Int))/\w.cell? (Z b 7 V)=U (nk nK (A.h.toNat:Int)):=
 ⟨h.cell 0,h.cell 1,h.cell 2,h.cell 3,h.cell 4,h.cell 5,h.cell 6,h.cell 7⟩
theorem TY(w:jJ):jV jI 253 #[] w λe w'=>e=nG (nD xM.cs)/\jS w.heap.size w w':=by
 have hB:=jH ((jT w.heap.size w).alloc (jK _) (nH xM.cs 31));have hb:=(nP.new w xM.cs 31).eight;have A:=jH hb;clear hb;go_in;go_wp2_with fail;change bodyPost _ _ _ _ _ (w.alloc (nH xM.cs 31));have q:=A.out;clear A;generalize w.alloc (nH xM.cs 31)=w1 at*;exact jZ (v:=nD xM.cs) (by simp[kQ,Tryz.results253,go_sem,q];rfl) rfl ⟨rfl,hB.out⟩
theorem a0E:∃i,Tryz.prog.info? 5=U i/\i.zero=U (nk .u8 0)/\i.size=1/\i.bytes=1:=by
 obtain⟨I,hi,A,C,E⟩:=info_parts I8.hi;exact⟨I,hi,A,C,E⟩
theorem MF(m c:Nat)(L C:Int)(hL:L=m)(A:C=c)(J:m<=c)(hc:c<=1000)(w:jJ):(Instr.makeSlice 86 (nk nI L) (nk nI C)).run jI w=
  .ok (ny (U (Z w.heap.size 0 V)) m c) (w.alloc (nH (madeCells #[nk .u8 0] c) 5)):=by
 subst hL A;obtain⟨i,hi,E,hs,hb⟩:=a0E;have I:=run_make (P:=jI) w 86 5 i (nk .u8 0) I8.ht hi E nI nI (m:Int) (c:Int) nL nL (by rw[hb];omega) nL;simpa [hs,Value.cells]using I
theorem EA(n:Nat):(DK n).length=9+(64 -(n+9) % 64) % 64:=by
 unfold DK;simp;omega
def vU(n i:Nat):List UInt8:=(l5 i).map λj=>kg (n*8/256^(7 - j) % 256)
theorem sD(n i:Nat)(l:List UInt8):l++vU n (i+1)=(l++vU n i)++[kg (n*8/256^(7 - i) % 256)]:=by
 unfold vU;rw[List.range_succ,List.map_append,mG];rfl
def zF(k:Nat):List UInt8:=128::lh k 0
theorem a0F(n:Nat):DK n=zF ((64 -(n+9) % 64) % 64)++vU n 8:=rfl
theorem a0G(n:Nat)(w:jJ)(hn:n<=1099511627776):
  jV jI 255 #[nk nI n] w λe w'=>e=nG (nE #[nz ⟨(DK n).toArray⟩,nk nI 0])/\jS w.heap.size w w':=by
 have h0:decide ((n:Int)<0)=false:=nS;have h1:decide (1099511627776<(n:Int))=false:=nT;have hp:=jH (a0F n);generalize DK n=au at*;obtain⟨k,hk⟩:∃k,k=(64 -(n+9) % 64) % 64:=⟨_,rfl⟩;rw[<-hk]at hp;have ah:k<64:=nL;have ai:=MF (k+1) (k+9) (1+ -(((n:Int)+9) % 64) % 64) (1+ -(((n:Int)+9) % 64) % 64+8) nL nL nL nL w;have aj:=jH hn;clear hk;obtain⟨B,hB⟩:=nV w.heap.size;have Q:=jH hB;clear hB;go_in;go_upto_region 5 with fail;have hB:=Q.out;rw[hB];refine uR (λW=>W.ownsRow B 5 1 (ny (U (Z B 0 V)) (k+1) (k+9)) (k+1) (nU (lh (k+1) 0))/\jS B w W) ?_ ?_
 .have aa:=mR hB.symm
  refine⟨⟨nS,.inr ⟨B,k+9,madeCells #[nk .u8 0] (k+9),rfl,jK _,?_,nL,yD,by rw[size_madeCells,Nat.mul_one],?_⟩⟩,(jT _ _).alloc aa _⟩;.rw[<-hB];exact World.alloc_heap_new w _
  .rw[toList_madeCells_one]
   simp[nU,List.take_replicate,List.map_replicate]
 rintro W ⟨C,E⟩;have ae:W.cell? (Z B 0 V)=U (nk .u8 0):=by rw[C.cellAt 0 nL];simp[nU,List.replicate_succ]
 have af:=C.frozenAt 0;have hst:=(C.stored 0 (nk .u8 128)).1;have O:=E.setCell (p:=(Z B 0 V)) (jK _) (nk .u8 128);clear ai E hB;have Y:=jH (jU hst O);clear hst O C;go_upto_region 6 with fail;refine uR (λW=>ow W B 5 (ny (U (Z B 0 V)) (k+1) (k+9)) (zF k++vU n 0)/\jS B w W) ⟨?_,Y.2⟩ ?_
 .have:=Y.1
  unfold ow;have e:zF k++vU n 0=zF k:=by unfold vU;simp
  rw[e];have e2:(zF k).length=k+1:=by unfold zF;simp
  rw[e2];have e3:nU (zF k)=(nU (lh (k+1) 0)).set 0 (nk .u8 128):=by unfold zF nU;simp[List.replicate_succ]
  rw[e3];exact this
 clear Y ae af W;rintro W ⟨C,E⟩;have ak:(zF k).length=k+1:=by unfold zF;simp
 generalize zF k=hd at*;generalize (1+ -(((n:Int)+9) % 64) % 64+8)=av;generalize (1+ -(((n:Int)+9) % 64) % 64)=ax;generalize (64 -((n:Int)+9) % 64) % 64=z3;generalize 64 -((n:Int)+9) % 64=z4;generalize ((n:Int)+9) % 64=z5;generalize (n:Int)+9=ay;go_wp2_with fail;go_loopw [5,26] (λv i wr=>∃j:Nat,j<=8/\i=nk nI j/\ow wr B 5 v (hd++vU n j)/\jS B w wr) (λ_ i _=>8 -(kT i).toNat);case atStart=>exact⟨0,nL,rfl,C,E⟩
 case round=>
  obtain⟨j,az,rfl,C,E⟩:=hrel;have N:B<=wr.heap.size:=by have:=E.size;have:=Q.out;omega
  have aA:=aj.out;have ag:j=0\/j=1\/j=2\/j=3\/j=4\/j=5\/j=6\/j=7\/j=8:=nL;rcases ag with rfl|rfl|rfl|rfl|rfl|rfl|rfl|rfl|rfl
  .go_wp2_with (at_builtin;refine oU I8 rfl (.tmp 29) (.tmp 38) rfl B _ _ [kg (n*8/256^7 % 256)] 1 rfl wr _ (xW (n:=n*8/256^7 % 256) nL (Nat.mod_lt _ nO)) rfl C rfl (by simp[vU];omega) N ?_;intro v' w' A I J)
   go_roundw;case rel=>exact⟨1,nL,by go_num,by rw[sD];exact A,E.trans I⟩
   case measure=>simp[kT]
  .go_wp2_with (at_builtin;refine oU I8 rfl (.tmp 29) (.tmp 38) rfl B _ _ [kg (n*8/256^6 % 256)] 1 rfl wr _ (xW (n:=n*8/256^6 % 256) nL (Nat.mod_lt _ nO)) rfl C rfl (by simp[vU];omega) N ?_;intro v' w' A I J)
   go_roundw;case rel=>exact⟨2,nL,by go_num,by rw[sD];exact A,E.trans I⟩
   case measure=>simp[kT]
  .go_wp2_with (at_builtin;refine oU I8 rfl (.tmp 29) (.tmp 38) rfl B _ _ [kg (n*8/256^5 % 256)] 1 rfl wr _ (xW (n:=n*8/256^5 % 256) nL (Nat.mod_lt _ nO)) rfl C rfl (by simp[vU];omega) N ?_;intro v' w' A I J)
   go_roundw;case rel=>exact⟨3,nL,by go_num,by rw[sD];exact A,E.trans I⟩
   case measure=>simp[kT]
  .go_wp2_with (at_builtin;refine oU I8 rfl (.tmp 29) (.tmp 38) rfl B _ _ [kg (n*8/256^4 % 256)] 1 rfl wr _ (xW (n:=n*8/256^4 % 256) nL (Nat.mod_lt _ nO)) rfl C rfl (by simp[vU];omega) N ?_;intro v' w' A I J)
   go_roundw;case rel=>exact⟨4,nL,by go_num,by rw[sD];exact A,E.trans I⟩
   case measure=>simp[kT]
  .go_wp2_with (at_builtin;refine oU I8 rfl (.tmp 29) (.tmp 38) rfl B _ _ [kg (n*8/256^3 % 256)] 1 rfl wr _ (xW (n:=n*8/256^3 % 256) nL (Nat.mod_lt _ nO)) rfl C rfl (by simp[vU];omega) N ?_;intro v' w' A I J)
   go_roundw;case rel=>exact⟨5,nL,by go_num,by rw[sD];exact A,E.trans I⟩
   case measure=>simp[kT]
  .go_wp2_with (at_builtin;refine oU I8 rfl (.tmp 29) (.tmp 38) rfl B _ _ [kg (n*8/256^2 % 256)] 1 rfl wr _ (xW (n:=n*8/256^2 % 256) nL (Nat.mod_lt _ nO)) rfl C rfl (by simp[vU];omega) N ?_;intro v' w' A I J)
   go_roundw;case rel=>exact⟨6,nL,by go_num,by rw[sD];exact A,E.trans I⟩
   case measure=>simp[kT]
  .go_wp2_with (at_builtin;refine oU I8 rfl (.tmp 29) (.tmp 38) rfl B _ _ [kg (n*8/256^1 % 256)] 1 rfl wr _ (xW (n:=n*8/256^1 % 256) nL (Nat.mod_lt _ nO)) rfl C rfl (by simp[vU];omega) N ?_;intro v' w' A I J)
   go_roundw;case rel=>exact⟨7,nL,by go_num,by rw[sD];exact A,E.trans I⟩
   case measure=>simp[kT]
  .go_wp2_with (at_builtin;refine oU I8 rfl (.tmp 29) (.tmp 38) rfl B _ _ [kg (n*8/256^0 % 256)] 1 rfl wr _ (xW (n:=n*8/256^0 % 256) nL (Nat.mod_lt _ nO)) rfl C rfl (by simp[vU];omega) N ?_;intro v' w' A I J)
   go_roundw;case rel=>exact⟨8,nL,by go_num,by rw[sD];exact A,E.trans I⟩
   case measure=>simp[kT]
  .have hst:=C.string I8
   go_wp2_with fail;go_returns;refine⟨by rw[hp.out];rfl,by rw[Q.out];exact E⟩
def vO(A:S8->List UInt8->S8)(L:List UInt8)(p:Nat)(s r:S8):Prop:=∃k,DL A (L.drop p) k s=r/\p+64*k=L.length
theorem vO.step{A:S8->List UInt8->S8}{s r:S8}(h:vO A L p s r)(hp:p+64<=L.length):vO A L (p+64) (A s ((L.drop p).take 64)) r:=by
 obtain⟨k,hk,hl⟩:=h;obtain⟨j,rfl⟩:∃j,k=j+1:=⟨k - 1,nL⟩;rw[Mq,List.drop_drop]at hk;exact⟨j,hk,nL⟩
theorem vO.drop{A:S8->List UInt8->S8}{s r:S8}(h:vO A L p s r):vO A (L.drop p) 0 s r:=by
 obtain⟨k,hk,hl⟩:=h;exact⟨k,hk,by rw[kX];omega⟩
def y9(L:List UInt8)(p:Nat)(s r:S8):Prop:=vO Mo L p s r
theorem vO.start(A:S8->List UInt8->S8)(L:List UInt8)(s:S8)(h:L.length % 64=0):vO A L 0 s (DL A L (L.length/64) s):=⟨L.length/64,rfl,nL⟩
theorem y9.start(L:List UInt8)(s:S8)(h:L.length % 64=0):y9 L 0 s (O3 L (L.length/64) s):=vO.start Mo L s h
theorem y9.step{s r:S8}(h:y9 L p s r)(hp:p+64<=L.length):y9 L (p+64) (Mo s ((L.drop p).take 64)) r:=vO.step h hp
theorem y9.drop{s r:S8}(h:y9 L p s r):y9 (L.drop p) 0 s r:=vO.drop h
theorem Km{l m:List UInt8}(h:p+64<=l.length):((l++m).drop p).take 64=(l.drop p).take 64:=by
 rw[List.drop_append_of_le_length nL,List.take_append_of_le_length (by rw[kX];omega)]
theorem ext_list(s:ByteArray)(p:Nat):(s.extract p (p+64)).data.toList=(s.data.toList.drop p).take 64:=by
 rw[Lib.extract_data];congr 1;omega
def DU(r:S8):Nat->List UInt8
 |0=>[]
 |k+1=>DU r k++uT (r.get k)
theorem Wt(r:S8):r.out=DU r 8:=by simp[DU,S8.out,S8.get]
theorem ui(x:UInt32):[lQ .u8 ((x.toNat:Int)/16777216 % 256),nk .u8 ((x.toNat:Int)/65536 % 256),nk .u8 ((x.toNat:Int)/256 % 256),nk .u8 ((x.toNat:Int) % 256)]=nU (uT x):=by
 unfold nU uT;have e:∀m:Nat,((kg (m % 256)).toNat:Int)=(m:Int) % 256:=λm=>by rw[FO _ (Nat.mod_lt _ nO)];omega
 simp only[mQ,List.map_nil,e,Int.natCast_ediv];rfl
theorem a0H(s:ByteArray)(w:jJ)(hs:s.size<=100000):
  jV jI 218 #[nz s] w λe w'=>e=nG (nz ⟨(TN s.data.toList).toArray⟩)/\jS w.heap.size w w':=by
 obtain⟨B,hB⟩:=nV w.heap.size;have bD:=jH hB;rw[hB];clear hB;obtain⟨l,hl⟩:∃l,l=s.data.toList:=⟨_,rfl⟩;have aI:l.length=s.size:=by rw[hl];rfl
 obtain⟨r,aR⟩:∃r,r=O3 (l++DK l.length) ((l++DK l.length).length/64) xM:=⟨_,rfl⟩;have ay:TN s.data.toList=r.out:=by rw[aR,hl];rfl
 rw[ay];have az:y9 (l++DK l.length) 0 xM r:=by
  rw[aR];refine y9.start _ _ ?_;rw[j5,EA];omega
 have aV:=jH az;have aW:=jH hl;have au:=jH aI;clear ay aR az hl aI;obtain⟨q,bE⟩:∃q,q=s.size/64:=⟨_,rfl⟩;have aX:jX (((s.size:Int) -(s.size:Int) % 64)=((64*q:Nat):Int)):=by unfold jX;omega
 have aJ:64*q<=s.size/\s.size<64*q+64:=nL;clear bE;have aA:=jH aJ;clear aJ;have c1:=jH (λw=>TY w);generalize xM=aS at*;go_in;go_wp2_with fail;refine(c1 _).mono ?_;rintro e w1 ⟨rfl,aB⟩;unfold S8.cs;go_upto_region 3 with fail;rw[aX.out];have aK:=bD.out;obtain⟨b3,av⟩:=nV w1.heap.size;have aL:B<=b3:=by have:=aB.size;omega
 refine uR (λW=>nP W b3 aS.cs 31/\jS B w W) ⟨av▸nP.new w1 aS.cs _,(aK▸aB).alloc nL _⟩ ?_;rw[av];clear aB av aK w1;rintro W ⟨hst,C⟩;go_wp2_with fail;go_loopw [5] (λi wr=>∃(p:Nat) (g:S8),i=nk nI p/\jX (p<=64*q/\p % 64=0)/\jX (y9 (l++DK l.length) p g r)/\nP wr b3 g.cs 31/\jS B w wr) (λi _=>64*q -(kT i).toNat);case atStart=>exact⟨0,aS,rfl,⟨nL,nL⟩,aV,hst,C⟩
 case round=>
  obtain⟨p,g,rfl,hp,Y,hst,C⟩:=hrel;by_cases hlt:p<64*q
  .have bF:p+64<=s.size:=by have h1:=hp.out;have h2:=aA.out;omega
   have aa:=λ(x:rP wr)=>(Below.blk x.is hst hst.lt).eight
   go_upto_region 6 with fail;refine vF 7 nN nN ?_;simp only[ky,kL,mW,List.drop_zero];have hsz:(s.extract p (p+64)).size=64:=by rw[kC];omega
   have ai:=jH (λw=>Rt g (s.extract p (p+64)) w hsz);have I:=Y.step (by rw[j5,au.out];omega);have aM:((l++DK l.length).drop p).take 64=(s.extract p (p+64)).data.toList:=by rw[Km (by rw[au.out];omega),ext_list,aW.out]
   rw[aM]at I;clear aM;generalize Mo g (s.extract p (p+64)).data.toList=ak at ai I;have aT:=jH I;clear I;clear hsz;unfold S8.cs at ai;repeat(go_big_quiet_step ((exact Calls.after (ai _))))
   refine mK ?_;intro x;have N:=Below.blk x.is hst hst.lt;have ae:=C.trans (x.is.mono (by have:=hst.lt;omega));have aC:=N.eight;have fr:=N.free;have aD:=jH ae;have aF:=jH N;clear N ae aa hst C ai;obtain⟨bG,aY⟩:=x;simp only at*;go_wp2_with fail;have aZ:=hp.out;exact⟨⟨p+64,ak,by go_num,⟨nL,nL⟩,aT,ME aF ak,Gb aD aL ak⟩,by simp[kT];omega⟩
  .obtain rfl:p=64*q:=by have:=hp.out;omega
   have cp:=jH (λw=>a0G s.size w nL);have bg:=EA s.size;have af:=Y.drop;rw[List.drop_append_of_le_length (by rw[au.out];exact aA.1)]at af;rw[au.out]at af;generalize DK s.size=ah at*;have aN:(s.extract (64*q) s.size++⟨ah.toArray⟩).data.toList=l.drop (64*q)++ah:=by
    rw[aW.out];simp only[ByteArray.data_append,Array.toList_append,Lib.extract_data];rw[List.take_of_length_le (by rw[kX,<-Lib.size_eq];omega)]
   rw[<-aN]at af;have aG:(s.extract (64*q) s.size++⟨ah.toArray⟩).size=s.size - 64*q+ah.length:=by
    have:=size_mk ah;have:=aA.out;rw[ByteArray.size_append,kC];omega
   have bq:(⟨ah.toArray⟩:ByteArray).size<=72:=by rw[size_mk];omega
   have ax:(s.extract (64*q) s.size++⟨ah.toArray⟩).size<=200:=by have:=aA.out;rw[aG];have:=size_mk ah;omega
   have bu:=jH ax;clear ax;have aO:=jH af;have bz:=jH aG;have bJ:=aA.out;have bA:=hst.lt;clear af aN aG bg;go_wp2_with fail;refine(cp _).mono ?_;rintro e w5 ⟨rfl,aH⟩;go_upto_region 9 with fail
   .rename_i aU
    have:=size_mk ah;exact absurd aU nL
   have aj:=C.trans (aH.mono nL);have ag:=Below.blk aH hst hst.lt;clear cp aH hst C bA bq;generalize s.extract (64*q) s.size++⟨ah.toArray⟩=R at*;clear bz;have ax:=bu.out;refine uR (λW=>nP W b3 g.cs 31/\jS B w W) ⟨ag,aj⟩ ?_;clear ag aj w5;rintro w5 ⟨ag,aj⟩;go_wp2_with fail;go_loopw [9] (λi wr=>∃(p:Nat) (g:S8),i=nk nI p/\jX (p<=R.size)/\jX (y9 R.data.toList p g r)/\nP wr b3 g.cs 31/\jS B w wr) (λi _=>R.size -(kT i).toNat);case atStart=>exact⟨0,g,rfl,kH _,aO,ag,aj⟩
   case round=>
    clear ag aj aO Y hp hlt g;obtain⟨p,g,rfl,hp,Y,hst,C⟩:=hrel;have aZ:p<=200:=jY hp ax;by_cases hlt:p+64<=R.size
    .have aa:=λ(x:rP wr)=>(Below.blk x.is hst hst.lt).eight
     go_upto_region 12 with fail;refine vF 7 nN nN ?_;simp only[ky,kL,mW,List.drop_zero];have hsz:(R.extract p (p+64)).size=64:=by rw[kC];omega
     have ai:=jH (λw=>Rt g (R.extract p (p+64)) w hsz);have I:=Y.step (by rw[<-Lib.size_eq];omega);rw[<-ext_list]at I;generalize Mo g (R.extract p (p+64)).data.toList=ak at ai I;have aT:=jH I;clear I hsz;unfold S8.cs at ai;repeat(go_big_quiet_step ((exact Calls.after (ai _))))
     refine mK ?_;intro x;have N:=Below.blk x.is hst hst.lt;have ae:=C.trans (x.is.mono (by have:=hst.lt;omega));have aC:=N.eight;have fr:=N.free;have aD:=jH ae;have aF:=jH N;clear N ae aa hst C ai;obtain⟨bG,aY⟩:=x;simp only at*;go_wp2_with fail;exact⟨⟨p+64,ak,by go_num,hlt,aT,ME aF ak,Gb aD aL ak⟩,by simp[kT];omega⟩
    .have bB:g=r:=by
      obtain⟨k,hk,hl⟩:=Y.out;rw[<-Lib.size_eq]at hl;obtain rfl:k=0:=nL;exact hk
     clear Y;subst bB;have aC:=hst.eight;have bH:=MF 0 32 0 32 rfl rfl nO nO wr;have bI:=hst.lt;have aP:=jH C;have aQ:=jH hst;clear hst C;go_upto_region 14 with fail;refine uR (λW=>ow W B 5 (ny (U (Z wr.heap.size 0 V)) 0 32) (DU g 0)/\jS B w W/\nP W b3 g.cs 31) ⟨ow.made wr B _ _ 32 nL nO (by rw[size_madeCells]),aP.alloc nL _,aQ.alloc _⟩ ?_;clear bH aC aP aQ;generalize wr.heap.size=bo at*;clear wr;rintro wr ⟨E,C,hst⟩;have aC:=hst.eight;have av:=hst.lt;clear hst;go_wp2_with fail;clear aC;go_loopw [10,59] (λv i wr=>∃j:Nat,j<=8/\i=nk nI j/\ow wr B 5 v (DU g j)/\jS B w wr/\B<=wr.heap.size) (λ_ i _=>8 -(kT i).toNat);case atStart=>exact⟨0,nL,rfl,E,C,nL⟩
     case round=>
      clear E C;obtain⟨j,bK,rfl,E,C,Q⟩:=hrel;have bC:j=0\/j=1\/j=2\/j=3\/j=4\/j=5\/j=6\/j=7\/j=8:=nL;rcases bC with rfl|rfl|rfl|rfl|rfl|rfl|rfl|rfl|rfl
      .have aa:∀w',(kS 31 (nD #[nk nK (g.a.toNat:Int),nk nK (g.b.toNat:Int),nk nK (g.c.toNat:Int),nk nK (g.d.toNat:Int),nk nK (g.e.toNat:Int),nk nK (g.f.toNat:Int),nk nK (g.g.toNat:Int),nk nK (g.h.toNat:Int)]) (nk nI 0)).run jI w'=.ok (nk nK (g.a.toNat:Int)) w':=λ_=>rfl
       go_wp2_with (at_builtin;refine oU I8 rfl (.tmp 62) (.tmp 74) rfl B _ _ (uT g.a) 4 rfl wr _ (ui g.a) rfl E rfl (by simp[DU,uT]) Q ?_;intro v' w' A J O);go_roundw;case rel=>exact⟨1,nL,by go_num,A,C.trans J,nL⟩
       case measure=>simp[kT]
      .have aa:∀w',(kS 31 (nD #[nk nK (g.a.toNat:Int),nk nK (g.b.toNat:Int),nk nK (g.c.toNat:Int),nk nK (g.d.toNat:Int),nk nK (g.e.toNat:Int),nk nK (g.f.toNat:Int),nk nK (g.g.toNat:Int),nk nK (g.h.toNat:Int)]) (nk nI 1)).run jI w'=.ok (nk nK (g.b.toNat:Int)) w':=λ_=>rfl
       go_wp2_with (at_builtin;refine oU I8 rfl (.tmp 62) (.tmp 74) rfl B _ _ (uT g.b) 4 rfl wr _ (ui g.b) rfl E rfl (by simp[DU,uT]) Q ?_;intro v' w' A J O);go_roundw;case rel=>exact⟨2,nL,by go_num,A,C.trans J,nL⟩
       case measure=>simp[kT]
      .have aa:∀w',(kS 31 (nD #[nk nK (g.a.toNat:Int),nk nK (g.b.toNat:Int),nk nK (g.c.toNat:Int),nk nK (g.d.toNat:Int),nk nK (g.e.toNat:Int),nk nK (g.f.toNat:Int),nk nK (g.g.toNat:Int),nk nK (g.h.toNat:Int)]) (nk nI 2)).run jI w'=.ok (nk nK (g.c.toNat:Int)) w':=λ_=>rfl
       go_wp2_with (at_builtin;refine oU I8 rfl (.tmp 62) (.tmp 74) rfl B _ _ (uT g.c) 4 rfl wr _ (ui g.c) rfl E rfl (by simp[DU,uT]) Q ?_;intro v' w' A J O);go_roundw;case rel=>exact⟨3,nL,by go_num,A,C.trans J,nL⟩
       case measure=>simp[kT]
      .have aa:∀w',(kS 31 (nD #[nk nK (g.a.toNat:Int),nk nK (g.b.toNat:Int),nk nK (g.c.toNat:Int),nk nK (g.d.toNat:Int),nk nK (g.e.toNat:Int),nk nK (g.f.toNat:Int),nk nK (g.g.toNat:Int),nk nK (g.h.toNat:Int)]) (nk nI 3)).run jI w'=.ok (nk nK (g.d.toNat:Int)) w':=λ_=>rfl
       go_wp2_with (at_builtin;refine oU I8 rfl (.tmp 62) (.tmp 74) rfl B _ _ (uT g.d) 4 rfl wr _ (ui g.d) rfl E rfl (by simp[DU,uT]) Q ?_;intro v' w' A J O);go_roundw;case rel=>exact⟨4,nL,by go_num,A,C.trans J,nL⟩
       case measure=>simp[kT]
      .have aa:∀w',(kS 31 (nD #[nk nK (g.a.toNat:Int),nk nK (g.b.toNat:Int),nk nK (g.c.toNat:Int),nk nK (g.d.toNat:Int),nk nK (g.e.toNat:Int),nk nK (g.f.toNat:Int),nk nK (g.g.toNat:Int),nk nK (g.h.toNat:Int)]) (nk nI 4)).run jI w'=.ok (nk nK (g.e.toNat:Int)) w':=λ_=>rfl
       go_wp2_with (at_builtin;refine oU I8 rfl (.tmp 62) (.tmp 74) rfl B _ _ (uT g.e) 4 rfl wr _ (ui g.e) rfl E rfl (by simp[DU,uT]) Q ?_;intro v' w' A J O);go_roundw;case rel=>exact⟨5,nL,by go_num,A,C.trans J,nL⟩
       case measure=>simp[kT]
      .have aa:∀w',(kS 31 (nD #[nk nK (g.a.toNat:Int),nk nK (g.b.toNat:Int),nk nK (g.c.toNat:Int),nk nK (g.d.toNat:Int),nk nK (g.e.toNat:Int),nk nK (g.f.toNat:Int),nk nK (g.g.toNat:Int),nk nK (g.h.toNat:Int)]) (nk nI 5)).run jI w'=.ok (nk nK (g.f.toNat:Int)) w':=λ_=>rfl
       go_wp2_with (at_builtin;refine oU I8 rfl (.tmp 62) (.tmp 74) rfl B _ _ (uT g.f) 4 rfl wr _ (ui g.f) rfl E rfl (by simp[DU,uT]) Q ?_;intro v' w' A J O);go_roundw;case rel=>exact⟨6,nL,by go_num,A,C.trans J,nL⟩
       case measure=>simp[kT]
      .have aa:∀w',(kS 31 (nD #[nk nK (g.a.toNat:Int),nk nK (g.b.toNat:Int),nk nK (g.c.toNat:Int),nk nK (g.d.toNat:Int),nk nK (g.e.toNat:Int),nk nK (g.f.toNat:Int),nk nK (g.g.toNat:Int),nk nK (g.h.toNat:Int)]) (nk nI 6)).run jI w'=.ok (nk nK (g.g.toNat:Int)) w':=λ_=>rfl
       go_wp2_with (at_builtin;refine oU I8 rfl (.tmp 62) (.tmp 74) rfl B _ _ (uT g.g) 4 rfl wr _ (ui g.g) rfl E rfl (by simp[DU,uT]) Q ?_;intro v' w' A J O);go_roundw;case rel=>exact⟨7,nL,by go_num,A,C.trans J,nL⟩
       case measure=>simp[kT]
      .have aa:∀w',(kS 31 (nD #[nk nK (g.a.toNat:Int),nk nK (g.b.toNat:Int),nk nK (g.c.toNat:Int),nk nK (g.d.toNat:Int),nk nK (g.e.toNat:Int),nk nK (g.f.toNat:Int),nk nK (g.g.toNat:Int),nk nK (g.h.toNat:Int)]) (nk nI 7)).run jI w'=.ok (nk nK (g.h.toNat:Int)) w':=λ_=>rfl
       go_wp2_with (at_builtin;refine oU I8 rfl (.tmp 62) (.tmp 74) rfl B _ _ (uT g.h) 4 rfl wr _ (ui g.h) rfl E rfl (by simp[DU,uT]) Q ?_;intro v' w' A J O);go_roundw;case rel=>exact⟨8,nL,by go_num,A,C.trans J,nL⟩
       case measure=>simp[kT]
      .have hst:=E.string I8
       go_wp2_with fail;go_returns;exact⟨by rw[Wt];rfl,C⟩
def twG(f:List UInt8->List UInt8)(l:List UInt8):Nat->List UInt8
 |0=>l
 |n+1=>f (twG f l n)
def Kn(l:List UInt8):List UInt8:=twG TN l 2
theorem S8.Ph(r:S8):r.out.length=32:=rfl
theorem EB(l:List UInt8):(TN l).length=32:=S8.Ph _
theorem Bd(l:List UInt8):(Kn l).length=32:=EB _
def a2C(f:List UInt8->List UInt8):Prop:=(∀l,(f l).length=32)/\∀(s:ByteArray)(w:jJ),s.size<=100000->
  jV jI 218 #[nz s] w λe w'=>e=nG (nz ⟨(f s.data.toList).toArray⟩)/\jS w.heap.size w w'
theorem a3w:a2C TN:=⟨EB,λs w h=>a0H s w h⟩
theorem Pj(f:List UInt8->List UInt8)(E:a2C f)(s:ByteArray)(w:jJ)(hs:s.size<=100000):
  jV jI 180 #[nz s] w λe w'=>e=nG (nz ⟨(twG f s.data.toList 2).toArray⟩)/\jS w.heap.size w w':=by
 obtain⟨l,hl⟩:∃l,l=s.data.toList:=⟨_,rfl⟩;rw[<-hl];have aa:=jH hl;have I:=jH E;clear hl E;obtain⟨B,hB⟩:=nV w.heap.size;have J:=jH hB;rw[hB];clear hB;go_in;go_wp2_with fail;go_loopw [0,3] (λv i wr=>∃(k:Nat) (S:ByteArray),v=nz S/\i=nk nI k/\k<=2/\jX (S.data.toList=twG f l k)/\S.size<=100000/\jS B w wr) (λ_ i _=>2 -(kT i).toNat);case atStart=>exact⟨0,s,rfl,rfl,nL,aa.symm,hs,J.out▸jT _ _⟩
 case round=>
  obtain⟨k,S,rfl,rfl,hk,N,O,hb⟩:=hrel;by_cases c:k<2
  .go_wp2_with fail
   refine(I.2 S wr O).mono ?_;rintro e w1 ⟨rfl,Q⟩;have A:=I.1 S.data.toList;have e1:f S.data.toList=twG f l (k+1):=by rw[N.out];rfl
   rw[e1]at A⊢;generalize C:(⟨(twG f l (k+1)).toArray⟩:ByteArray)=T;have hsz:T.size<=100000:=by rw[<-C,size_mk,A];decide
   have ae:jX (T.data.toList=twG f l (k+1)):=by rw[<-C];rfl
   clear C A e1;have Y:=hb.trans (Q.mono (by have h1:=hb.size;have h2:=J.out;omega));go_wp2_with fail;exact⟨⟨k+1,T,rfl,by go_num,nL,ae,hsz,Y⟩,by simp[kT];omega⟩
  .obtain rfl:k=2:=nL
   go_wp2_with fail;go_returns;refine⟨congrArg (λb:ByteArray=>lJ (Value.string b)) ?_,hb⟩;apply ByteArray.ext;apply Array.ext';exact N
theorem TZ(s:ByteArray)(w:jJ)(hs:s.size<=100000):
  jV jI 180 #[nz s] w λe w'=>e=nG (nz ⟨(Kn s.data.toList).toArray⟩)/\jS w.heap.size w w':=
 Pj TN a3w s w hs
def checkN(l:List UInt8):List UInt8:=(Kn l).take 4
theorem Be(l:List UInt8):(checkN l).length=4:=by rw[checkN,mi,Bd];rfl
theorem EC(s:ByteArray)(w:jJ)(hs:s.size<=100000):
  jV jI 130 #[nz s] w λe w'=>e=nG (nz ⟨(checkN s.data.toList).toArray⟩)/\jS w.heap.size w w':=by
 have c1:=jH (TZ s w hs);have hl:=Bd s.data.toList;obtain⟨T,C⟩:∃T,T=Kn s.data.toList:=⟨_,rfl⟩;have hc:checkN s.data.toList=T.take 4:=by rw[C];rfl
 rw[hc];rw[<-C]at c1 hl;clear hc C;have J:(⟨T.toArray⟩:ByteArray).size=32:=by rw[size_mk,hl]
 generalize A:(⟨T.toArray⟩:ByteArray)=N at*;have E:=jH A;clear A hl;go_in;go_wp2_with fail;refine c1.mono ?_;rintro e w1 ⟨rfl,I⟩;go_wp2_with fail;go_returns;refine⟨congrArg (λb:ByteArray=>lJ (Value.string b)) ?_,I⟩;rw[<-E.out];apply ByteArray.ext;apply Array.ext';rw[Lib.extract_data];rfl
theorem Pk(s o:ByteArray)(w:jJ)(hs:s.size<=100000):
  jV jI 141 #[nz s,nz o] w λe w'=>e=nG (nC (o.toList==(⟨(checkN s.data.toList).toArray⟩:ByteArray).toList))/\jS w.heap.size w w':=by
 have c1:=jH (EC s w hs);generalize (⟨(checkN s.data.toList).toArray⟩:ByteArray)=C at*;go_in;go_wp2_with fail;refine c1.mono ?_;rintro e w1 ⟨rfl,A⟩;go_wp2_with fail;go_returns;exact⟨rfl,A⟩
end
section
open Go.RowKit
def Iz(b:Bool)(er:Int):Int:=if b then 0 else er
theorem uj(b:Bool)(er:Int)(w:jJ):jV jI 134 #[nC b,nk nI er] w λe w'=>e=nG (nk nI (Iz b er))/\w'=w:=by
 cases b with
 |true=>
  exact BC
 |false=>
  exact BC
theorem MG(s:ByteArray)(a b:Int)(A B ps:Nat)(w:jJ)(c0:w.cell? (Z ps 0 V)=U (nz s))(C:a=A)(hb:b=B)(N:A<B)(E:B - A<=8)(hB:B<=s.size)(hs:s.size<=j3):
  jV jI 131 #[nk nI a,nk nI b,nA (U (Z ps 0 V))] w λe w'=>e=nG (nk nJ (qm (s.extract A B).data.toList))/\w'=w:=by
 subst C hb;have I:(s.extract A B).size=B - A:=by simp[kC];omega
 have J:=jH (sV (s.extract A B) w nL nL);have O:s.size<=9223372036854775807:=by unfold j3 at hs;omega
 clear I E hs;generalize qm (s.extract A B).data.toList=Q at*;go_in;go_wp2_with fail;refine J.mono ?_;rintro e w2 ⟨rfl,rfl⟩;go_wp2_with fail;go_returns;exact⟨rfl,rfl⟩
theorem Ko(x:Int)(ps:Nat)(w:jJ):jV jI 132 #[nk nI x,nA (U (Z ps 0 V))] w
  λe w'=>e=nG (.func (.func 133) #[] #[nA (U (Z ps 0 V)),nA (U (Z w.heap.size 0 V))])/\w'=w.alloc (nH #[nk nI x] 3):=by
 obtain⟨W,A⟩:=nV (w.alloc (nH #[nk nI x] 3));rw[A];have E:=jH A;obtain⟨g,hg⟩:=nV w.heap.size;rw[hg];have C:∀(fn:Fn)(first cap:Array jP)(w:jJ),(mJ fn first cap).run jI w=.ok (.func fn first cap) w:=λ_ _ _ _=>rfl
 go_in;go_wp2_with fail;go_returns;exact⟨rfl,rfl⟩
theorem yJ(s:ByteArray)(x:Int)(X ps A:Nat)(w:jJ)(c0:w.cell? (Z ps 0 V)=U (nz s))(c1:w.cell? (Z A 0 V)=U (nk nI x))(C:x=X)(hs:s.size<=j3):
  jV jI 133 #[nA (U (Z ps 0 V)),nA (U (Z A 0 V))] w λe w'=>e=nG (nk nI (Iz (decide (X<=s.size)) 2))/\w'=w:=by
 subst C;have J:s.size<=9223372036854775807:=by unfold j3 at hs;omega
 have E:=jH uj;have hd:decide ((X:Int)<=(s.size:Int))=decide (X<=s.size):=by rw[decide_eq_decide];omega
 have I:=jH hd;clear hs hd;go_in;go_wp2_with fail;refine(E _ _ _).mono ?_;rintro e w2 ⟨rfl,rfl⟩;go_wp2_with fail;go_returns;exact⟨by rw[<-I.out];rfl,rfl⟩
theorem Pm(s:ByteArray)(m:Int)(ps A C:Nat)(w:jJ)(c0:w.cell? (Z ps 0 V)=U (nz s))(h0:ps<w.heap.size)(c1:w.cell? (Z A 0 V)=U (nk nK m))(h1:A<w.heap.size)(I:(lI nK m).wf=true)(c2:w.cell? (Z C 0 V)=U (.func (.func 131) #[] #[nA (U (Z ps 0 V))]))(h2:C<w.heap.size)(J:4<=s.size)(hs:s.size<=j3):
  jV jI 135 #[nA (U (Z C 0 V)),nA (U (Z A 0 V))] w λe w'=>e=nG (nk nI (Iz ((qm (s.extract 0 4).data.toList:Int)==m) 9))/\jS w.heap.size w w':=by
 have N:=jH (λx:rP w=>(MG s 0 4 0 4 ps x.at_ ((x.is.cell (p:=(Z ps 0 V)) h0).trans c0) rfl rfl nO nO J hs).mono λe w' ⟨he,E⟩=>(⟨he,E▸jT _ _⟩:_/\jS x.at_.heap.size x.at_ w'));have O:=jH (λ(b:Bool) (x:rP w)=>(uj b 9 x.at_).mono λe w' ⟨he,E⟩=>(⟨he,E▸jT _ _⟩:_/\jS x.at_.heap.size x.at_ w'));have x1:∀x:rP w,x.at_.cell? (Z A 0 V)=U (nk nK m):=λx=>(x.is.cell (p:=(Z A 0 V)) h1).trans c1
 have x2:∀x:rP w,x.at_.cell? (Z C 0 V)=U (.func (.func 131) #[] #[nA (U (Z ps 0 V))]):=λx=>(x.is.cell (p:=(Z C 0 V)) h2).trans c2
 have hm2:0<=m/\m<=4294967295:=by simpa [Lit.wf,IntKind.min,IntKind.max,IntKind.signed,IntKind.bits]using I
 have Q:IntKind.u64.wrap m=m:=by
  simp only[IntKind.wrap,IntKind.signed,IntKind.bits];exact Int.emod_eq_of_lt hm2.1 nL
 generalize qm (s.extract 0 4).data.toList=Y at*;clear c0 c1 c2 hs I;go_in;go_upto_region 1 with fail;refine oz nN nN ?_;repeat(go_big_quiet_step (first|(go_at_call 131;exact Calls.after (N _))|(go_at_call 134;exact Calls.after (O _ _))))
 refine mK ?_;intro x;go_wp2_with fail;go_returns;exact⟨rfl,x.is⟩
def xu(s:ByteArray):ByteArray:=(Cr (s.extract 4 16)).getD ⟨#[]⟩
def uU(s:ByteArray):Nat:=qm (s.extract 16 20).data.toList
theorem T9(s N:ByteArray)(ps C:Nat)(w:jJ)(c0:w.cell? (Z ps 0 V)=U (nz s))(c1:w.cell? (Z C 0 V)=U (nz N))(f1:w.frozen? (Z C 0 V)=false)(aa:16<=s.size)(hs:s.size<=j3):
  jV jI 136 #[nA (U (Z ps 0 V)),nA (U (Z C 0 V))] w λe w'=>e=nG (nk nI (Iz (Cr (s.extract 4 16)).isSome 3))/\w'=w.setCell (Z C 0 V) (nz (xu s)):=by
 have ae:s.size<=9223372036854775807:=by unfold j3 at hs;omega
 have A:=a0y (s.extract 4 16) w (by simp[kC];unfold j3 at hs⊢;omega);unfold FX at A;obtain⟨nm,hn⟩:∃nm,(Cr (s.extract 4 16)).getD ⟨#[]⟩=nm:=⟨_,rfl⟩;have I:xu s=nm:=hn;rw[hn]at A;rw[I];have O:=jH uj;obtain⟨b,hb⟩:=nV ((Cr (s.extract 4 16)).isSome);rw[hb]at A⊢;obtain⟨er,E⟩:∃er:Int,(if b=true then(0:Int)else 3)=er:=⟨_,rfl⟩;rw[E]at A;have A:=jH A;have Q:jX (b=(er==0)):=jH (by subst E;cases b<;>rfl);obtain⟨W,J⟩:∃W,w.setCell (Z C 0 V) (nz nm)=W:=⟨_,rfl⟩;rw[J];have Y:=jH J;clear hn I hb E hs J;go_in;go_wp2_with fail;refine A.mono ?_;rintro e w2 ⟨rfl,rfl⟩;go_wp2_with fail;refine(O _ _ _).mono ?_;rintro e w3 ⟨rfl,rfl⟩;go_wp2_with fail;go_returns;exact⟨by rw[Q.out];rfl,Y.out⟩
theorem Wu(s:ByteArray)(most J:Int)(ps O A E:Nat)(w:jJ)(c0:w.cell? (Z ps 0 V)=U (nz s))(c2:w.cell? (Z O 0 V)=U (.func (.func 131) #[] #[nA (U (Z ps 0 V))]))(b1:nP w A #[nk nI J] 3)(b3:nP w E #[nk nI most] 3)(Q:E≠A)(Y:20<=s.size)(hs:s.size<=j3):
  jV jI 138 #[nA (U (Z O 0 V)),nA (U (Z A 0 V)),nA (U (Z E 0 V))] w λe w'=>e=nG (nk nI (Iz (decide ((uU s:Int)<=most)) 5))/\w'=w.setCell (Z A 0 V) (nk nI (uU s)):=by
 have I:jV jI 131 #[nk nI 16,nk nI 20,nA (U (Z ps 0 V))] w λe w'=>e=nG (nk nJ (uU s))/\w'=w:=MG s 16 20 16 20 ps w c0 rfl rfl nO nO Y hs
 have I:=jH I;have aa:=jH uj;have hlt:uU s<4294967296:=by
  have h1:=uz (s.extract 16 20).data.toList;have h2:(s.extract 16 20).data.toList.length=4:=by
   rw[kY];show(s.extract 16 20).size=4;rw[kC];omega
  rw[h2]at h1;exact h1
 generalize uU s=N at*;obtain⟨W,C⟩:∃W,w.setCell (Z A 0 V) (nk nI (N:Int))=W:=⟨_,rfl⟩;have c4:W.cell? (Z A 0 V)=U (nk nI (N:Int)):=by rw[<-C];exact(b1.set 0 _).cell 0
 have c5:W.cell? (Z E 0 V)=U (nk nI most):=by rw[<-C];exact(b3.setOther (a:=(Z A 0 V)) Q _).cell 0
 obtain⟨c1,f1⟩:=b1.b1;rw[C];have ae:=jH C;clear hs b1 b3;go_in;go_upto_region 1 with fail;clear C;go_wp2_with fail;refine I.mono ?_;rintro e w2 ⟨rfl,rfl⟩;go_upto_region 2 with fail;rw[ae.out];go_wp2_with fail;refine(aa _ _ _).mono ?_;rintro e w3 ⟨rfl,rfl⟩;go_wp2_with fail;go_returns;exact⟨rfl,rfl⟩
theorem Ua(s:ByteArray)(N ps A:Nat)(w:jJ)(c0:w.cell? (Z ps 0 V)=U (nz s))(c1:w.cell? (Z A 0 V)=U (nk nI (N:Int)))(I:24<=s.size)(hs:s.size<=j3):
  jV jI 139 #[nA (U (Z ps 0 V)),nA (U (Z A 0 V))] w λe w'=>e=nG (nk nI (Iz (decide (24+N<=s.size)) 2))/\w'=w:=by
 have J:s.size<=9223372036854775807:=by unfold j3 at hs;omega
 have C:=jH uj;have E:jX (decide ((N:Int)<=(s.size:Int) - 24)=decide (24+N<=s.size)):=jH (by rw[decide_eq_decide];omega);clear hs;go_in;go_wp2_with fail;refine(C _ _ _).mono ?_;rintro e w3 ⟨rfl,rfl⟩;go_wp2_with fail;go_returns;exact⟨by rw[<-E.out];rfl,rfl⟩
def Ru(b o:ByteArray):Bool:=o.toList==(⟨(checkN b.data.toList).toArray⟩:ByteArray).toList
theorem Wv(s:ByteArray)(N ps A:Nat)(w:jJ)(c0:w.cell? (Z ps 0 V)=U (nz s))(h0:ps<w.heap.size)(c1:w.cell? (Z A 0 V)=U (nk nI (N:Int)))(h1:A<w.heap.size)(J:24+N<=s.size)(Q:N<=100000)(hs:s.size<=j3):
  jV jI 140 #[nA (U (Z ps 0 V)),nA (U (Z A 0 V))] w λe w'=>e=nG (nk nI (Iz (Ru (s.extract 24 (24+N)) (s.extract 20 24)) 10))/\jS w.heap.size w w':=by
 have O:s.size<=9223372036854775807:=by unfold j3 at hs;omega
 have C:∀x:rP w,jV jI 141 #[nz (s.extract 24 (24+N)),nz (s.extract 20 24)] x.at_ λe w'=>e=nG (nC (Ru (s.extract 24 (24+N)) (s.extract 20 24)))/\jS x.at_.heap.size x.at_ w':=λx=>Pk (s.extract 24 (24+N)) (s.extract 20 24) x.at_ (by simp[kC];omega)
 have C:=jH C;have E:=jH (λ(b:Bool) (x:rP w)=>(uj b 10 x.at_).mono λe w' ⟨he,I⟩=>(⟨he,I▸jT _ _⟩:_/\jS x.at_.heap.size x.at_ w'));have Y:∀x:rP w,x.at_.cell? (Z ps 0 V)=U (nz s):=λx=>(x.is.cell (p:=(Z ps 0 V)) h0).trans c0
 have x1:∀x:rP w,x.at_.cell? (Z A 0 V)=U (nk nI (N:Int)):=λx=>(x.is.cell (p:=(Z A 0 V)) h1).trans c1
 generalize Ru (s.extract 24 (24+N)) (s.extract 20 24)=B at*;clear c0 c1 hs;go_in;go_upto_region 1 with fail;refine oz nN nN ?_;repeat(go_big_quiet_step (first|(go_at_call 141;exact Calls.after (C _))|(go_at_call 134;exact Calls.after (E _ _))))
 refine mK ?_;intro x;go_wp2_with fail;go_returns;exact⟨rfl,x.is⟩
end
end Go.Proofs.YtamfcjmhnndbdaaGreatDoor


