/- Part 4 of the proof. -/
import Derived.Test.YtamfcjmhnndbdaaGreatDoorZk00
import Derived.Test.YtamfcjmhnndbdaaGreatDoorZk03
import Derived.Deep.RegionHeld3
import Derived.Laws.EntriesVeiled
import Derived.WalkSpells
import Derived.Deep.WholeRow
import Derived.OwnWalk
import Derived.Lib.Strings
import Derived.WalkLawsBesides
import Derived.Deep.CutBlock
import Derived.Deep.DeepCutAuto
open Go.Value renaming agg→lC,bool→lu,int→lg,pointer→lq,slice→lh,string→ll,tuple→lD
open Go.Obj renaming cells→lG
open Go.IntKind renaming i64→lH,u32→lJ,u64→lI
open Go.Ending renaming returned→lF,returned→jP
open Go.Lib renaming hid→iF
open Go.Proofs.Tryz renaming prog→iG,underlying86→kC
open Go renaming World→iH,Value→iJ,Calls→iU,bodyPost_ret→iV,maxLen→jb,TypeId→jg,results→jr,wpAnyH_take→jT,wpQuiet_nil→kS
open Nat renaming le_refl→iI,le_trans→je,zero_le→jy,le_of_eq→kX
open Go.RowKit renaming Below→iK,Hid→iW,intOf→jA
open Go.RowKit.Below renaming refl→iL,heap_setCell→iX
open List renaming getElem?_cons_succ→iM,setIfInBounds_toArray→iN,getElem?_cons_zero→iO,getElem?_toArray→iP,set_cons_zero→iR,set_cons_succ→iT,take_succ_cons→ji,length_cons→jm,length_append→jv,take_zero→jC,length_drop→jS,replicate→jY,range→kI,drop_succ_cons→kU,size_toArray→kV,map_cons→kY
open And renaming intro→iQ
open ByteArray renaming size_extract→ja
open UInt8 renaming ofNat→jl
open Go.Instr renaming index→jB,makeFunc→kL
open Array renaming length_toList→jM,replicate→jQ
open Go.AllReadyH renaming cons→jU,nil→j3
open Go.Act renaming put→jZ
open Go.Lit renaming int→kP
namespace Go.Proofs.YtamfcjmhnndbdaaGreatDoor
set_option linter.unusedVariables false
set_option linter.unusedSimpArgs false
set_option maxRecDepth 100000
set_option maxHeartbeats 8000000
variable {k b p:Nat}{w:iH}{t:jg}{L:List UInt8}
section
open Go.RowKit Go.Shelf
attribute [local go_sem] Oper.semAt_some
theorem YQ(h:k<8):k=0\/k=1\/k=2\/k=3\/k=4\/k=5\/k=6\/k=7:=lK
theorem YR(s t:S8)(h:k<8):(Wt s t k)[k]? =some (lg lJ ((s.get k).toNat:Int)):=by
 rcases YQ h with rfl|rfl|rfl|rfl|rfl|rfl|rfl|rfl<;>rfl
theorem Wu(s t:S8)(h:k<8):(Wt s t k).setIfInBounds k (lg lJ ((s.get k+t.get k).toNat:Int))=Wt s t (k+1):=by
 rcases YQ h with rfl|rfl|rfl|rfl|rfl|rfl|rfl|rfl<;>rfl
theorem a0Y(T:S8)(h:k<8)(w:iH):(jB 31 (lC #[lg lJ (T.a.toNat:Int),lg lJ (T.b.toNat:Int),lg lJ (T.c.toNat:Int),lg lJ (T.d.toNat:Int),lg lJ (T.e.toNat:Int),lg lJ (T.f.toNat:Int),lg lJ (T.g.toNat:Int),lg lJ (T.h.toNat:Int)]) (lg lH k)).run iG w=.ok (lg lJ ((T.get k).toNat:Int)) w:=by
 rcases YQ h with rfl|rfl|rfl|rfl|rfl|rfl|rfl|rfl<;>rfl
theorem Ov(st:S8)(s:ByteArray)(w:iH)(hs:s.size=64):
  iU iG 254 #[lC st.cs,ll s] w λe w'=>e=lF (lC (Jz st s.data.toList).cs)/\iK w.heap.size w w':=by
 refine(callsIn_wide (n:=8)).1 ?_;refine callsIn_of_wp_marks Tryz.func254 rfl trivial ?_ rfl;simp only[Tryz.ntmps254,kV,jm,List.length_nil,Nat.reduceAdd,Nat.reduceSub,Array.replicate_succ,Array.replicate_zero,List.push_toArray,List.append_toArray,List.nil_append,List.cons_append];refine wpIn_wide.2 ?_;go_upto_region 1 with fail;obtain⟨b0,hb0⟩:=lV w.heap.size;refine r9 (λW=>iK b0 w W/\W.heap.size=b0+2/\lN W b0 st.cs 31/\lN W (b0+1) (jQ 8 (lg lJ 0)) 31) ?_ ?_
 .refine⟨((iL _ _).alloc lK _).alloc lW _,by simp[hb0],(hb0▸lN.new w _ _).alloc _,?_⟩
  have:=lN.new (w.alloc (lG st.cs 31)) (jQ 8 (lg lJ 0)) 31;rwa [World.size_alloc,hb0]at this
 rintro W ⟨aG,hsz,J,ae⟩;have aO:=iF hsz;have df:=iF hb0;clear hsz;rw[hb0];clear hb0;go_upto_region 2 with fail;refine r9 (λU=>iK b0 w U/\U.heap.size=b0+3/\lN U b0 st.cs 31/\lN U (b0+1) (jQ 8 (lg lJ 0)) 31/\lN U (b0+2) #[.func (.func 272) #[] #[]] 302) ?_ ?_
 .have e:=aO.out
  refine⟨aG.alloc lK _,by simp[e],J.alloc _,ae.alloc _,?_⟩;have:=lN.new W #[.func (.func 272) #[] #[]] 302;rwa [e]at this
 rw[aO.out];clear aO J ae aG W;rintro W ⟨aG,hsz,J,ae,bG⟩;refine Fe ?_;refine wp_region_held_drew (S:=λw'=>lN w' b0 st.cs 31) lQ (lN.drew J) (λA=> ?_);refine jT (i:=0) (oi:= ?oi0) (v:= ?v0) ?hi0 lQ lQ lQ ?hQ0 (Or.inl ⟨?hw0,?hy0⟩) A ?a0Z;case hi0=>simp only[iP,iM,iO];rfl
 case hQ0=>exact λ_ _ _ h=>h
 case hw0=>rfl
 case hy0=>(intro w C;go_simp;try rfl)
 simp only[jZ,iN,iR,iT];refine jT (i:=1) (oi:= ?oi1) (v:= ?v1) ?hi1 lQ lQ lQ ?hQ1 (Or.inl ⟨?hw1,?hy1⟩) A ?a00;case hi1=>simp only[iP,iM,iO];rfl
 case hQ1=>exact λ_ _ _ h=>h
 case hw1=>rfl
 case hy1=>(intro w C;have hc:w.cell? ⟨_,0,none⟩=some (lg lJ (st.a.toNat:Int)):=C.cell 0;go_simp;try rfl)
 simp only[jZ,iN,iR,iT];refine jT (i:=2) (oi:= ?oi2) (v:= ?v2) ?hi2 lQ lQ lQ ?hQ2 (Or.inl ⟨?hw2,?hy2⟩) A ?a01;case hi2=>simp only[iP,iM,iO];rfl
 case hQ2=>exact λ_ _ _ h=>h
 case hw2=>rfl
 case hy2=>(intro w C;go_simp;try rfl)
 simp only[jZ,iN,iR,iT];refine jT (i:=3) (oi:= ?oi3) (v:= ?v3) ?hi3 lQ lQ lQ ?hQ3 (Or.inl ⟨?hw3,?hy3⟩) A ?a02;case hi3=>simp only[iP,iM,iO];rfl
 case hQ3=>exact λ_ _ _ h=>h
 case hw3=>rfl
 case hy3=>(intro w C;have hc:w.cell? ⟨_,1,none⟩=some (lg lJ (st.b.toNat:Int)):=C.cell 1;go_simp;try rfl)
 simp only[jZ,iN,iR,iT];refine jT (i:=4) (oi:= ?oi4) (v:= ?v4) ?hi4 lQ lQ lQ ?hQ4 (Or.inl ⟨?hw4,?hy4⟩) A ?a03;case hi4=>simp only[iP,iM,iO];rfl
 case hQ4=>exact λ_ _ _ h=>h
 case hw4=>rfl
 case hy4=>(intro w C;go_simp;try rfl)
 simp only[jZ,iN,iR,iT];refine jT (i:=5) (oi:= ?oi5) (v:= ?v5) ?hi5 lQ lQ lQ ?hQ5 (Or.inl ⟨?hw5,?hy5⟩) A ?a04;case hi5=>simp only[iP,iM,iO];rfl
 case hQ5=>exact λ_ _ _ h=>h
 case hw5=>rfl
 case hy5=>(intro w C;have hc:w.cell? ⟨_,2,none⟩=some (lg lJ (st.c.toNat:Int)):=C.cell 2;go_simp;try rfl)
 simp only[jZ,iN,iR,iT];refine jT (i:=6) (oi:= ?oi6) (v:= ?v6) ?hi6 lQ lQ lQ ?hQ6 (Or.inl ⟨?hw6,?hy6⟩) A ?a3M;case hi6=>simp only[iP,iM,iO];rfl
 case hQ6=>exact λ_ _ _ h=>h
 case hw6=>rfl
 case hy6=>(intro w C;go_simp;try rfl)
 simp only[jZ,iN,iR,iT];refine jT (i:=7) (oi:= ?oi7) (v:= ?v7) ?hi7 lQ lQ lQ ?hQ7 (Or.inl ⟨?hw7,?hy7⟩) A ?a3N;case hi7=>simp only[iP,iM,iO];rfl
 case hQ7=>exact λ_ _ _ h=>h
 case hw7=>rfl
 case hy7=>(intro w C;have hc:w.cell? ⟨_,3,none⟩=some (lg lJ (st.d.toNat:Int)):=C.cell 3;go_simp;try rfl)
 simp only[jZ,iN,iR,iT];refine jT (i:=8) (oi:= ?oi8) (v:= ?v8) ?hi8 lQ lQ lQ ?hQ8 (Or.inl ⟨?hw8,?hy8⟩) A ?a05;case hi8=>simp only[iP,iM,iO];rfl
 case hQ8=>exact λ_ _ _ h=>h
 case hw8=>rfl
 case hy8=>(intro w C;go_simp;try rfl)
 simp only[jZ,iN,iR,iT];refine jT (i:=9) (oi:= ?oi9) (v:= ?v9) ?hi9 lQ lQ lQ ?hQ9 (Or.inl ⟨?hw9,?hy9⟩) A ?a3P;case hi9=>simp only[iP,iM,iO];rfl
 case hQ9=>exact λ_ _ _ h=>h
 case hw9=>rfl
 case hy9=>(intro w C;have hc:w.cell? ⟨_,4,none⟩=some (lg lJ (st.e.toNat:Int)):=C.cell 4;go_simp;try rfl)
 simp only[jZ,iN,iR,iT];refine jT (i:=10) (oi:= ?a2u) (v:= ?v10) ?YS lQ lQ lQ ?YT (Or.inl ⟨?YU,?YV⟩) A ?YW;case YS=>simp only[iP,iM,iO];rfl
 case YT=>exact λ_ _ _ h=>h
 case YU=>rfl
 case YV=>(intro w C;go_simp;try rfl)
 simp only[jZ,iN,iR,iT];refine jT (i:=11) (oi:= ?a2v) (v:= ?v11) ?YX lQ lQ lQ ?YY (Or.inl ⟨?YZ,?Y0⟩) A ?Y1;case YX=>simp only[iP,iM,iO];rfl
 case YY=>exact λ_ _ _ h=>h
 case YZ=>rfl
 case Y0=>(intro w C;have hc:w.cell? ⟨_,5,none⟩=some (lg lJ (st.f.toNat:Int)):=C.cell 5;go_simp;try rfl)
 simp only[jZ,iN,iR,iT];refine jT (i:=12) (oi:= ?a06) (v:= ?v12) ?SA lQ lQ lQ ?a2w (Or.inl ⟨?a2x,?a2y⟩) A ?a2z;case SA=>simp only[iP,iM,iO];rfl
 case a2w=>exact λ_ _ _ h=>h
 case a2x=>rfl
 case a2y=>(intro w C;go_simp;try rfl)
 simp only[jZ,iN,iR,iT];refine jT (i:=13) (oi:= ?a4O) (v:= ?v13) ?a2A lQ lQ lQ ?a2B (Or.inl ⟨?a2C,?a2D⟩) A ?a2E;case a2A=>simp only[iP,iM,iO];rfl
 case a2B=>exact λ_ _ _ h=>h
 case a2C=>rfl
 case a2D=>(intro w C;have hc:w.cell? ⟨_,6,none⟩=some (lg lJ (st.g.toNat:Int)):=C.cell 6;go_simp;try rfl)
 simp only[jZ,iN,iR,iT];refine jT (i:=14) (oi:= ?a4P) (v:= ?v14) ?a2F lQ lQ lQ ?a2G (Or.inl ⟨?a2H,?a2I⟩) A ?a2J;case a2F=>simp only[iP,iM,iO];rfl
 case a2G=>exact λ_ _ _ h=>h
 case a2H=>rfl
 case a2I=>(intro w C;go_simp;try rfl)
 simp only[jZ,iN,iR,iT];refine jT (i:=15) (oi:= ?a4Q) (v:= ?v15) ?a2K lQ lQ lQ ?a2L (Or.inl ⟨?a2M,?a2N⟩) A ?a2O;case a2K=>simp only[iP,iM,iO];rfl
 case a2L=>exact λ_ _ _ h=>h
 case a2M=>rfl
 case a2N=>(intro w C;have hc:w.cell? ⟨_,7,none⟩=some (lg lJ (st.h.toNat:Int)):=C.cell 7;go_simp;try rfl)
 simp only[jZ,iN,iR,iT]
 refine JH (P:=iG) (T:=22) (z:=lg lJ 0) (H:=b0+3) (fuel:=8) (w0:=W.drew) [(16,6),(17,7),(18,8),(19,9),(20,10),(21,11),(22,12),(23,13)] lM (kX hsz.symm)
  (Fb lQ (λeQ dst dh pos after w=>Qn eQ dst dh pos after w)) (Mc lQ) (λw' h=>h.alloc _) ?_ 8 (λ_=>none) _ rfl A ⟨iL _ _,(λp hp b hb=>by cases hb),(λp hp q dw b hb=>by cases hb)⟩
 intro bs bg bH aP;simp only[nM,vY,DC,jZ,iN,iR,iT];have Y:a0W b0 bs:=by
  refine⟨λi j hi av e=> ?_,λj av=>(aP.blk (16+j,6+j) (yh j av) _ rfl).1⟩;have:=aP.inj (16+i,6+i) (yh i hi) (16+j,6+j) (yh j av) (bs (16+j)) (by rw[<-e]) rfl;omega
 have hI:sW b0 bs st.cs w (λ_=>0) bg:=by
  have aQ:=aP.below;refine⟨aG.trans ?_,bH,Below.blk aQ ae lK,Below.blk aQ bG lK,λj av=>(aP.blk (16+j,6+j) (yh j av) _ rfl).2⟩;exact((iL b0 W).drew).trans (aQ.mono lK)
 clear aP bH A J ae bG aG hsz W;refine wpAnyH_ready (rs:=[24]) lQ lU ?_;refine jU (o:= ?a4R) ?a2P (λK Z=> ?_) j3;case a2P=>simp only[iP,iM,iO];rfl
 have O:=hI.v 0 lM;have hc:bg.cell? ⟨bs 16,0,none⟩=some (lg lJ _):=O.cell 0;have aj:bg.frozen? ⟨bs 16,0,none⟩=false:=O.free 0;clear O;have aa:=iF hI;clear hI;go_simp;have hI:=aa.out.set Y 0 lM st.a.toNat;clear aa;refine Z.out _ _ hI.st (λai=> ?_);clear Z K hc aj;try simp only[jZ,iN,iR,iT]
 refine sV _ hI ?_;clear hI ai bg;intro bX hI;refine wpAnyH_ready (rs:=[25]) lQ lU ?_;refine jU (o:= ?a4S) ?a2Q (λK Z=> ?_) j3;case a2Q=>simp only[iP,iM,iO];rfl
 have O:=hI.v 1 lM;have hc:bX.cell? ⟨bs 17,0,none⟩=some (lg lJ _):=O.cell 0;have aj:bX.frozen? ⟨bs 17,0,none⟩=false:=O.free 0;clear O;have aa:=iF hI;clear hI;go_simp;have hI:=aa.out.set Y 1 lM st.b.toNat;clear aa;refine Z.out _ _ hI.st (λai=> ?_);clear Z K hc aj;try simp only[jZ,iN,iR,iT]
 refine sV _ hI ?_;clear hI ai bX;intro U hI;refine wpAnyH_ready (rs:=[26]) lQ lU ?_;refine jU (o:= ?a4T) ?a2R (λK Z=> ?_) j3;case a2R=>simp only[iP,iM,iO];rfl
 have O:=hI.v 2 lM;have hc:U.cell? ⟨bs 18,0,none⟩=some (lg lJ _):=O.cell 0;have aj:U.frozen? ⟨bs 18,0,none⟩=false:=O.free 0;clear O;have aa:=iF hI;clear hI;go_simp;have hI:=aa.out.set Y 2 lM st.c.toNat;clear aa;refine Z.out _ _ hI.st (λai=> ?_);clear Z K hc aj;try simp only[jZ,iN,iR,iT]
 refine sV _ hI ?_;clear hI ai U;intro W3 hI;refine wpAnyH_ready (rs:=[27]) lQ lU ?_;refine jU (o:= ?a4U) ?hi27 (λK Z=> ?_) j3;case hi27=>simp only[iP,iM,iO];rfl
 have O:=hI.v 3 lM;have hc:W3.cell? ⟨bs 19,0,none⟩=some (lg lJ _):=O.cell 0;have aj:W3.frozen? ⟨bs 19,0,none⟩=false:=O.free 0;clear O;have aa:=iF hI;clear hI;go_simp;have hI:=aa.out.set Y 3 lM st.d.toNat;clear aa;refine Z.out _ _ hI.st (λai=> ?_);clear Z K hc aj;try simp only[jZ,iN,iR,iT]
 refine sV _ hI ?_;clear hI ai W3;intro bY hI;refine wpAnyH_ready (rs:=[28]) lQ lU ?_;refine jU (o:= ?a4V) ?a2S (λK Z=> ?_) j3;case a2S=>simp only[iP,iM,iO];rfl
 have O:=hI.v 4 lM;have hc:bY.cell? ⟨bs 20,0,none⟩=some (lg lJ _):=O.cell 0;have aj:bY.frozen? ⟨bs 20,0,none⟩=false:=O.free 0;clear O;have aa:=iF hI;clear hI;go_simp;have hI:=aa.out.set Y 4 lM st.e.toNat;clear aa;refine Z.out _ _ hI.st (λai=> ?_);clear Z K hc aj;try simp only[jZ,iN,iR,iT]
 refine sV _ hI ?_;clear hI ai bY;intro bZ hI;refine wpAnyH_ready (rs:=[29]) lQ lU ?_;refine jU (o:= ?a4W) ?a2T (λK Z=> ?_) j3;case a2T=>simp only[iP,iM,iO];rfl
 have O:=hI.v 5 lM;have hc:bZ.cell? ⟨bs 21,0,none⟩=some (lg lJ _):=O.cell 0;have aj:bZ.frozen? ⟨bs 21,0,none⟩=false:=O.free 0;clear O;have aa:=iF hI;clear hI;go_simp;have hI:=aa.out.set Y 5 lM st.f.toNat;clear aa;refine Z.out _ _ hI.st (λai=> ?_);clear Z K hc aj;try simp only[jZ,iN,iR,iT]
 refine sV _ hI ?_;clear hI ai bZ;intro cz hI;refine wpAnyH_ready (rs:=[30]) lQ lU ?_;refine jU (o:= ?a4X) ?a2U (λK Z=> ?_) j3;case a2U=>simp only[iP,iM,iO];rfl
 have O:=hI.v 6 lM;have hc:cz.cell? ⟨bs 22,0,none⟩=some (lg lJ _):=O.cell 0;have aj:cz.frozen? ⟨bs 22,0,none⟩=false:=O.free 0;clear O;have aa:=iF hI;clear hI;go_simp;have hI:=aa.out.set Y 6 lM st.g.toNat;clear aa;refine Z.out _ _ hI.st (λai=> ?_);clear Z K hc aj;try simp only[jZ,iN,iR,iT]
 refine sV _ hI ?_;clear hI ai cz;intro cB hI;refine wpAnyH_ready (rs:=[31]) lQ lU ?_;refine jU (o:= ?a4Y) ?a2V (λK Z=> ?_) j3;case a2V=>simp only[iP,iM,iO];rfl
 have O:=hI.v 7 lM;have hc:cB.cell? ⟨bs 23,0,none⟩=some (lg lJ _):=O.cell 0;have aj:cB.frozen? ⟨bs 23,0,none⟩=false:=O.free 0;clear O;have aa:=iF hI;clear hI;go_simp;have hI:=aa.out.set Y 7 lM st.h.toNat;clear aa;refine Z.out _ _ hI.st (λai=> ?_);clear Z K hc aj;try simp only[jZ,iN,iR,iT]
 refine sV _ hI ?_;clear hI ai cB;intro dx hI;refine wpAnyH_done lQ ?_ _;have hI:sW b0 bs st.cs w st.at_ dx:=hI.congr (λj av=>by match j,av with|0,_=>rfl|1,_=>rfl|2,_=>rfl|3,_=>rfl|4,_=>rfl|5,_=>rfl|6,_=>rfl|7,_=>rfl);have aD:=iF hI;clear hI;go_wp2_with fail;refine(L9 s _).mono ?_;rintro e bq ⟨Bs,rfl,bI,ak,oL⟩;obtain⟨E,dz⟩:=lV dx.heap.size;rw[dz]at bI ak;have hlt:=λj av=>((aD.out.v j av).lt)
 rw[dz]at hlt;have aH:sW b0 bs st.cs w st.at_ bq:=aD.out.grown (E:=E) hlt (by have:=aD.out.cl.lt;omega) (row:=none) ⟨ak.os,ak.tape,ak.output,by have:=ak.size;omega,λi hi _=>ak.block i lK⟩ (λr h=>by cases h);have dA:b0+2<E:=by have:=aD.out.cl.lt;omega
 clear aD;unfold a0U;go_wp2_with fail;have aK:=Ma 7 Bs E s bq hs bI oL;have aR:Jz st s.data.toList=Wq st (vX s.data.toList st 64):=rfl;have bJ:vX s.data.toList st 0=st:=rfl;have bK:∀k,vX s.data.toList st (k+1)=Sq (vX s.data.toList st k) (kN k) (wS s.data.toList k):=λ_=>rfl
 have dB:E<=bq.heap.size:=by have:=ak.size;omega
 clear oL hI ak;generalize vX s.data.toList st=R at*;generalize wS s.data.toList=dC at*;have aH:=aH.congr (y:=(R 0).at_) (λj _=>by rw[bJ]);clear bJ;have dD:=iF aR;have dE:=iF bK;clear aR bK;refine wpIn_wide.1 (Bc (n:=8) (E:=E) (N:=64) (encs:=Sy dC) (w0:=bq) rfl lM (gf:=283) (lb:=#[lq (some ⟨Bs,0,none⟩)]) rfl trivial ?eg aK (iL _ _) (λk=>rfl) (λk W=>sW b0 bs st.cs w (R k).at_ W) ?hI aH ?L6 ?hdone);case eg=>intro args w';rfl
 case hI=>exact λk W fV row hk hg eT=>hk.grown (E:=E) hlt dA hg (λr e=>by have:=eT r e;omega)
 case L6=>
  intro l k W hk hI;simp only[Sy,List.zip_toArray,List.zip_cons_cons,List.zip_nil_right,List.foldl_toArray,List.foldl_cons,List.foldl_nil,iN,iR,iT]
  gi_wp2
  refine⟨trivial,λU af=> ?_⟩;have aS:=dE.out k;generalize dC k=wk at*;obtain⟨dF,aT⟩:=lV (R k);rw[aT]at aS;have af:sW b0 bs st.cs w dF.at_ U:=af.congr (λj _=>by rw[aT]);clear aT;obtain⟨a,b,c,d,e,f,g,h⟩:=dF;have c0:U.cell? ⟨bs 16,0,none⟩=some (lg lJ (a.toNat:Int)):=(af.v 0 lM).cell 0;have c1:U.cell? ⟨bs 17,0,none⟩=some (lg lJ (b.toNat:Int)):=(af.v 1 lM).cell 0;have c2:U.cell? ⟨bs 18,0,none⟩=some (lg lJ (c.toNat:Int)):=(af.v 2 lM).cell 0;have c3:U.cell? ⟨bs 19,0,none⟩=some (lg lJ (d.toNat:Int)):=(af.v 3 lM).cell 0;have c4:U.cell? ⟨bs 20,0,none⟩=some (lg lJ (e.toNat:Int)):=(af.v 4 lM).cell 0;have c5:U.cell? ⟨bs 21,0,none⟩=some (lg lJ (f.toNat:Int)):=(af.v 5 lM).cell 0;have c6:U.cell? ⟨bs 22,0,none⟩=some (lg lJ (g.toNat:Int)):=(af.v 6 lM).cell 0;have c7:U.cell? ⟨bs 23,0,none⟩=some (lg lJ (h.toNat:Int)):=(af.v 7 lM).cell 0;have fZ:U.cell? ⟨b0+2,0,none⟩=some (.func (.func 272) #[] #[]):=af.cl.cell 0;have aU:=iF af;have dG:=iF aS;have au:=iF hlt;clear af aS hI aK aH hlt
  gi_upto_region 8 with(refine⟨trivial,?_⟩;skip)
  simp only[a0M,a0X,FL];have dH:(e&&&f)^^^(~~~e&&&g)=(e&&&f)^^^(~~~e&&&g):=rfl;have dI:(a&&&b)^^^(a&&&c)^^^(b&&&c)=(a&&&b)^^^(a&&&c)^^^(b&&&c):=rfl;generalize aV:(e&&&f)^^^(~~~e&&&g)=ch;generalize aW:(a&&&b)^^^(a&&&c)^^^(b&&&c)=eU;have aV:=iF aV;have aW:=iF aW;clear dH dI;refine Bd l lQ lQ lQ ?hL ?_;case hL=>rintro⟨gm,w',dw⟩;exact absurd dw.1 (λe=>by cases e)
  repeat(go_big_quiet_step (first
   |(go_at_call 275;exact Calls.RQ (DD _ _ _ _ _ lM lM lM))
   |(go_at_call 272;exact Calls.quiet_of (Qo _ _ hk))))
  refine kS ?_;intro bu
  gi_upto_region 9 with(refine⟨trivial,?_⟩;skip)
  have dJ:((((h.toNat:Int)+((Qg e 6 11 25).toNat:Int)+((kN k).toNat:Int)+(wk.toNat:Int)) % 4294967296+(ch.toNat:Int)) % 4294967296)=((Jy ⟨a,b,c,d,e,f,g,h⟩ (kN k) wk).toNat:Int):=by
   unfold Jy;simp only;rw[aV.out,<-xq,<-xq,<-xq,<-xq];omega
  rw[dJ];generalize aX:Jy ⟨a,b,c,d,e,f,g,h⟩ (kN k) wk=P;have aX:=iF aX;clear dJ
  gi_upto_region 10 with(refine⟨trivial,CallsIn.mono (CallsIn.inRound l (callsIn_wide.2 (DD a 2 13 22 _ lM lM lM))) ?_⟩;rintro en w' ⟨rfl,rfl⟩)
  have dK:((((Qg a 2 13 22).toNat:Int)+(eU.toNat:Int)) % 4294967296)=((Ot ⟨a,b,c,d,e,f,g,h⟩).toNat:Int):=by
   unfold Ot;simp only;rw[aW.out,<-xq]
  rw[dK];generalize aY:Ot ⟨a,b,c,d,e,f,g,h⟩=bz;have aY:=iF aY;clear dK;have bL:=iF (aU.out.drewN bu);have bM:KeepsFrom E U (U.drewN bu)/\I7 E U (U.drewN bu):=⟨KeepsFrom.of_grownBy (row:=none) ⟨rfl,rfl,rfl,iI _,λ_ _ _=>rfl⟩ (λ_ h=>by cases h),I7.refl _ _⟩;have gp:U.frozen? ⟨bs 16,0,none⟩=false:=(aU.out.v 0 lM).free 0;have f1:U.frozen? ⟨bs 17,0,none⟩=false:=(aU.out.v 1 lM).free 0;repeat(first|gi_guarded|gi_step|gi_upon)
  generalize fH:U.drewN bu=eX at bL bM⊢;have ax:=bL.out.set Y 0 lM (((P.toNat:Int)+(bz.toNat:Int)) % 4294967296);have bN:=qY (E:=E) bM (b:=bs 16) (au.out 0 lM) (lg lJ (((P.toNat:Int)+(bz.toNat:Int)) % 4294967296));generalize dL:eX.setCell ⟨bs 16,0,none⟩ (lg lJ (((P.toNat:Int)+(bz.toNat:Int)) % 4294967296))=bA at bN⊢;have ax:sW b0 bs st.cs w _ bA:=dL▸ax;have gq:bA.cell? ⟨bs 17,0,none⟩=some (lg lJ _):=(ax.v 1 lM).cell 0;have f2:bA.frozen? ⟨bs 18,0,none⟩=false:=(ax.v 2 lM).free 0;have dM:=iF ax;clear ax;go_simp;repeat(first|gi_guarded|gi_step|gi_upon)
  have ay:=dM.out.set Y 1 lM (a.toNat:Int);have bO:=qY (E:=E) bN (b:=bs 17) (au.out 1 lM) (lg lJ (a.toNat:Int));generalize dN:bA.setCell ⟨bs 17,0,none⟩ (lg lJ (a.toNat:Int))=bB at bO⊢;have ay:sW b0 bs st.cs w _ bB:=dN▸ay;have gu:bB.cell? ⟨bs 18,0,none⟩=some (lg lJ _):=(ay.v 2 lM).cell 0;have f3:bB.frozen? ⟨bs 19,0,none⟩=false:=(ay.v 3 lM).free 0;have dO:=iF ay;clear ay;go_simp;repeat(first|gi_guarded|gi_step|gi_upon)
  have az:=dO.out.set Y 2 lM (b.toNat:Int);have bP:=qY (E:=E) bO (b:=bs 18) (au.out 2 lM) (lg lJ (b.toNat:Int));generalize dP:bB.setCell ⟨bs 18,0,none⟩ (lg lJ (b.toNat:Int))=bC at bP⊢;have az:sW b0 bs st.cs w _ bC:=dP▸az;have gy:bC.cell? ⟨bs 19,0,none⟩=some (lg lJ _):=(az.v 3 lM).cell 0;have f4:bC.frozen? ⟨bs 20,0,none⟩=false:=(az.v 4 lM).free 0;have dQ:=iF az;clear az;go_simp;repeat(first|gi_guarded|gi_step|gi_upon)
  have aA:=dQ.out.set Y 3 lM (c.toNat:Int);have bQ:=qY (E:=E) bP (b:=bs 19) (au.out 3 lM) (lg lJ (c.toNat:Int));generalize dR:bC.setCell ⟨bs 19,0,none⟩ (lg lJ (c.toNat:Int))=bD at bQ⊢;have aA:sW b0 bs st.cs w _ bD:=dR▸aA;have gz:bD.cell? ⟨bs 20,0,none⟩=some (lg lJ _):=(aA.v 4 lM).cell 0;have gB:bD.frozen? ⟨bs 21,0,none⟩=false:=(aA.v 5 lM).free 0;have dS:=iF aA;clear aA;go_simp;repeat(first|gi_guarded|gi_step|gi_upon)
  have aB:=dS.out.set Y 4 lM (((d.toNat:Int)+(P.toNat:Int)) % 4294967296);have bR:=qY (E:=E) bQ (b:=bs 20) (au.out 4 lM) (lg lJ (((d.toNat:Int)+(P.toNat:Int)) % 4294967296));generalize dU:bD.setCell ⟨bs 20,0,none⟩ (lg lJ (((d.toNat:Int)+(P.toNat:Int)) % 4294967296))=bE at bR⊢;have aB:sW b0 bs st.cs w _ bE:=dU▸aB;have gD:bE.cell? ⟨bs 21,0,none⟩=some (lg lJ _):=(aB.v 5 lM).cell 0;have gF:bE.frozen? ⟨bs 22,0,none⟩=false:=(aB.v 6 lM).free 0;have dV:=iF aB;clear aB;go_simp;repeat(first|gi_guarded|gi_step|gi_upon)
  have aC:=dV.out.set Y 5 lM (e.toNat:Int);have bS:=qY (E:=E) bR (b:=bs 21) (au.out 5 lM) (lg lJ (e.toNat:Int));generalize dW:bE.setCell ⟨bs 21,0,none⟩ (lg lJ (e.toNat:Int))=bF at bS⊢;have aC:sW b0 bs st.cs w _ bF:=dW▸aC;have gG:bF.cell? ⟨bs 22,0,none⟩=some (lg lJ _):=(aC.v 6 lM).cell 0;have gH:bF.frozen? ⟨bs 23,0,none⟩=false:=(aC.v 7 lM).free 0;have dX:=iF aC;clear aC;go_simp;repeat(first|gi_guarded|gi_step|gi_upon)
  have aI:=dX.out.set Y 6 lM (f.toNat:Int);have bT:=qY (E:=E) bS (b:=bs 22) (au.out 6 lM) (lg lJ (f.toNat:Int));generalize dY:bF.setCell ⟨bs 22,0,none⟩ (lg lJ (f.toNat:Int))=cK at bT⊢;have aI:sW b0 bs st.cs w _ cK:=dY▸aI;have gI:cK.cell? ⟨bs 23,0,none⟩=some (lg lJ _):=(aI.v 7 lM).cell 0;have dZ:=iF aI;clear aI;go_simp;repeat(first|gi_guarded|gi_step|gi_upon)
  have aL:=dZ.out.set Y 7 lM (g.toNat:Int);have aM:=qY (E:=E) bT (b:=bs 23) (au.out 7 lM) (lg lJ (g.toNat:Int));generalize ed:cK.setCell ⟨bs 23,0,none⟩ (lg lJ (g.toNat:Int))=eY at aM⊢;have aL:sW b0 bs st.cs w _ eY:=ed▸aL;have ek:=iF aL;clear aL;refine⟨rfl,⟨aM.1.size,λi o hi=>aM.1.same i o (je dB hi)⟩,aM.2,ek.out.congr (λj av=> ?_)⟩;rw[dG.out];unfold Sq;rw[aX.out,aY.out]
  match j,av with
  |0,_=>exact xq P bz
  |1,_=>rfl
  |2,_=>rfl
  |3,_=>rfl
  |4,_=>exact xq d P
  |5,_=>rfl
  |6,_=>rfl
  |7,_=>rfl
 case hdone=>
  intro D W gJ hI eu;obtain⟨T,cO⟩:=lV (R 64);have hI:sW b0 bs st.cs w T.at_ W:=hI.congr (λj _=>by rw[cO]);have cZ:=dD.out;rw[cO]at cZ;have c0:W.cell? ⟨bs 16,0,none⟩=some (lg lJ (T.a.toNat:Int)):=(hI.v 0 lM).cell 0;have c1:W.cell? ⟨bs 17,0,none⟩=some (lg lJ (T.b.toNat:Int)):=(hI.v 1 lM).cell 0;have c2:W.cell? ⟨bs 18,0,none⟩=some (lg lJ (T.c.toNat:Int)):=(hI.v 2 lM).cell 0;have c3:W.cell? ⟨bs 19,0,none⟩=some (lg lJ (T.d.toNat:Int)):=(hI.v 3 lM).cell 0;have c4:W.cell? ⟨bs 20,0,none⟩=some (lg lJ (T.e.toNat:Int)):=(hI.v 4 lM).cell 0;have c5:W.cell? ⟨bs 21,0,none⟩=some (lg lJ (T.f.toNat:Int)):=(hI.v 5 lM).cell 0;have c6:W.cell? ⟨bs 22,0,none⟩=some (lg lJ (T.g.toNat:Int)):=(hI.v 6 lM).cell 0;have c7:W.cell? ⟨bs 23,0,none⟩=some (lg lJ (T.h.toNat:Int)):=(hI.v 7 lM).cell 0;have aD:=iF hI;have eB:=iF eu;have bU:=iF cZ;clear hI eu cZ cO dD dE aK aH hlt;go_wp2_with fail;go_loopw [98] (λi wr=>∃k:Nat,k<=8/\i=lg lH k/\iK b0 w wr/\lN wr b0 (Wt st T k) 31/\lN wr (b0+1) (jQ 8 (lg lJ 0)) 31/\wr.heap[D]? =some (.deferred (some []))) (λi _=>8 -(jA i).toNat);case atStart=>exact⟨0,lK,rfl,aD.out.below,aD.out.st,aD.out.res,eB.out⟩
  case round=>
   obtain⟨k,hk,rfl,hB,J,ae,hd⟩:=hrel;have eD:=iF hB;have eF:=iF hd;clear hB hd;by_cases aN:k<8
   .have c:wr.cell? ⟨b0,k,none⟩=some (lg lJ ((st.get k).toNat:Int)):=(J.cell k).trans (YR st T aN)
    have f:wr.frozen? ⟨b0,k,none⟩=false:=J.free k;have ai:∀w',(jB 31 (lC #[lg lJ (T.a.toNat:Int),lg lJ (T.b.toNat:Int),lg lJ (T.c.toNat:Int),lg lJ (T.d.toNat:Int),lg lJ (T.e.toNat:Int),lg lJ (T.f.toNat:Int),lg lJ (T.g.toNat:Int),lg lJ (T.h.toNat:Int)]) (lg lH k)).run iG w'=.ok (lg lJ ((T.get k).toNat:Int)) w':=λw'=>a0Y T aN w'
    have eZ:=iF J;have eG:=iF ae;have gK:=iF aN;have fI:(k:Int)<8:=lK;clear J ae;have eH:=iF (Wu st T aN);generalize st.get k=fq at*;generalize T.get k=fu at*;go_wp2_with fail;rw[xq];go_roundw;case rel=>exact⟨k+1,lK,by go_num,eD.out.setCell (iI _) _,by have:=eZ.out.set k (lg lJ ((fq+fu).toNat:Int));rw[eH.out]at this;exact this,eG.out.setOther lU _,(iX _ _ _ _ lW).trans eF.out⟩
    case measure=>simp[jA];omega
   .obtain rfl:k=8:=lK
    have J:lN wr b0 (Wq st T).cs 31:=J;have Q:lN wr (b0+1) #[lg lJ 0,lg lJ 0,lg lJ 0,lg lJ 0,lg lJ 0,lg lJ 0,lg lJ 0,lg lJ 0] 31:=ae;have bV:=bU.out;generalize Wq st T=V at*;have z0:wr.cell? ⟨b0,0,none⟩=some (lg lJ (V.a.toNat:Int)):=J.cell 0;have r0:wr.cell? ⟨b0+1,0,none⟩=some (lg lJ 0):=Q.cell 0;have fJ:wr.frozen? ⟨b0+1,0,none⟩=false:=Q.free 0;have gL:wr.cell? ⟨b0,1,none⟩=some (lg lJ (V.b.toNat:Int)):=J.cell 1;have r1:wr.cell? ⟨b0+1,1,none⟩=some (lg lJ 0):=Q.cell 1;have fK:wr.frozen? ⟨b0+1,1,none⟩=false:=Q.free 1;have gM:wr.cell? ⟨b0,2,none⟩=some (lg lJ (V.c.toNat:Int)):=J.cell 2;have r2:wr.cell? ⟨b0+1,2,none⟩=some (lg lJ 0):=Q.cell 2;have fM:wr.frozen? ⟨b0+1,2,none⟩=false:=Q.free 2;have z3:wr.cell? ⟨b0,3,none⟩=some (lg lJ (V.d.toNat:Int)):=J.cell 3;have r3:wr.cell? ⟨b0+1,3,none⟩=some (lg lJ 0):=Q.cell 3;have fO:wr.frozen? ⟨b0+1,3,none⟩=false:=Q.free 3;have z4:wr.cell? ⟨b0,4,none⟩=some (lg lJ (V.e.toNat:Int)):=J.cell 4;have r4:wr.cell? ⟨b0+1,4,none⟩=some (lg lJ 0):=Q.cell 4;have fP:wr.frozen? ⟨b0+1,4,none⟩=false:=Q.free 4;have z5:wr.cell? ⟨b0,5,none⟩=some (lg lJ (V.f.toNat:Int)):=J.cell 5;have gN:wr.cell? ⟨b0+1,5,none⟩=some (lg lJ 0):=Q.cell 5;have fQ:wr.frozen? ⟨b0+1,5,none⟩=false:=Q.free 5;have gP:wr.cell? ⟨b0,6,none⟩=some (lg lJ (V.g.toNat:Int)):=J.cell 6;have gQ:wr.cell? ⟨b0+1,6,none⟩=some (lg lJ 0):=Q.cell 6;have fT:wr.frozen? ⟨b0+1,6,none⟩=false:=Q.free 6;have gT:wr.cell? ⟨b0,7,none⟩=some (lg lJ (V.h.toNat:Int)):=J.cell 7;have gU:wr.cell? ⟨b0+1,7,none⟩=some (lg lJ 0):=Q.cell 7;have fU:wr.frozen? ⟨b0+1,7,none⟩=false:=Q.free 7;have eO:=iF bV;clear bV bU ae;have eP:=iF Q;clear Q J;go_wp2_with fail;have hF:=((((((((eP.out.set 0 (lg lJ (V.a.toNat:Int))).set 1 (lg lJ (V.b.toNat:Int))).set 2 (lg lJ (V.c.toNat:Int))).set 3 (lg lJ (V.d.toNat:Int))).set 4 (lg lJ (V.e.toNat:Int))).set 5 (lg lJ (V.f.toNat:Int))).set 6 (lg lJ (V.g.toNat:Int))).set 7 (lg lJ (V.h.toNat:Int)));have aZ:=(qZ (qZ (qZ (qZ (qZ (qZ (qZ (qZ eD.out 0 (lg lJ (V.a.toNat:Int))) 1 (lg lJ (V.b.toNat:Int))) 2 (lg lJ (V.c.toNat:Int))) 3 (lg lJ (V.d.toNat:Int))) 4 (lg lJ (V.e.toNat:Int))) 5 (lg lJ (V.f.toNat:Int))) 6 (lg lJ (V.g.toNat:Int))) 7 (lg lJ (V.h.toNat:Int)));have ag:D≠b0+1:=lK;have ah:=eF.out;rw[<-iX _ ⟨b0+1,0,none⟩ (lg lJ (V.a.toNat:Int)) D (by simpa using ag)]at ah;rw[<-iX _ ⟨b0+1,1,none⟩ (lg lJ (V.b.toNat:Int)) D (by simpa using ag)]at ah;rw[<-iX _ ⟨b0+1,2,none⟩ (lg lJ (V.c.toNat:Int)) D (by simpa using ag)]at ah;rw[<-iX _ ⟨b0+1,3,none⟩ (lg lJ (V.d.toNat:Int)) D (by simpa using ag)]at ah;rw[<-iX _ ⟨b0+1,4,none⟩ (lg lJ (V.e.toNat:Int)) D (by simpa using ag)]at ah;rw[<-iX _ ⟨b0+1,5,none⟩ (lg lJ (V.f.toNat:Int)) D (by simpa using ag)]at ah;rw[<-iX _ ⟨b0+1,6,none⟩ (lg lJ (V.g.toNat:Int)) D (by simpa using ag)]at ah;rw[<-iX _ ⟨b0+1,7,none⟩ (lg lJ (V.h.toNat:Int)) D (by simpa using ag)]at ah;simp only[iN,iR,iT]at hF;revert hF aZ ah;generalize ((((((((wr.setCell ⟨b0+1,0,none⟩ (lg lJ (V.a.toNat:Int))).setCell ⟨b0+1,1,none⟩ (lg lJ (V.b.toNat:Int))).setCell ⟨b0+1,2,none⟩ (lg lJ (V.c.toNat:Int))).setCell ⟨b0+1,3,none⟩ (lg lJ (V.d.toNat:Int))).setCell ⟨b0+1,4,none⟩ (lg lJ (V.e.toNat:Int))).setCell ⟨b0+1,5,none⟩ (lg lJ (V.f.toNat:Int))).setCell ⟨b0+1,6,none⟩ (lg lJ (V.g.toNat:Int))).setCell ⟨b0+1,7,none⟩ (lg lJ (V.h.toNat:Int)))=wf;intro aZ ah hF;have hF:lN wf (b0+1) V.cs 31:=hF;refine⟨lU,.inl ⟨_,_,rfl,run_takeDeferred ah,?_⟩⟩;have aF:lN (wf.putObj D (.deferred none)) (b0+1) V.cs 31:=(World.putObj_heap_other lK).trans hF;have bW:iK b0 w (wf.putObj D (.deferred none)):=aZ.grown (grownBy_putObj' wf D _) (by have:=hF.lt;omega) (λk hk=>by cases hk;omega);generalize wf.putObj D (.deferred none)=aJ at aF bW⊢;have fw:aJ.cell? ⟨b0+1,0,none⟩=some (lg lJ (V.a.toNat:Int)):=aF.cell 0;have fA:aJ.cell? ⟨b0+1,1,none⟩=some (lg lJ (V.b.toNat:Int)):=aF.cell 1;have fB:aJ.cell? ⟨b0+1,2,none⟩=some (lg lJ (V.c.toNat:Int)):=aF.cell 2;have fC:aJ.cell? ⟨b0+1,3,none⟩=some (lg lJ (V.d.toNat:Int)):=aF.cell 3;have fD:aJ.cell? ⟨b0+1,4,none⟩=some (lg lJ (V.e.toNat:Int)):=aF.cell 4;have fE:aJ.cell? ⟨b0+1,5,none⟩=some (lg lJ (V.f.toNat:Int)):=aF.cell 5;have fF:aJ.cell? ⟨b0+1,6,none⟩=some (lg lJ (V.g.toNat:Int)):=aF.cell 6;have fG:aJ.cell? ⟨b0+1,7,none⟩=some (lg lJ (V.h.toNat:Int)):=aF.cell 7;refine⟨lC V.cs,?_,?_⟩
    .unfold S8.cs
     simp[jr,Tryz.results254,go_sem,fw,fA,fB,fC,fD,fE,fF,fG]
    .rw[df.out]
     exact⟨by rw[eO.out],bW⟩
theorem FP:oN iG 86 5 9:=⟨kC,Tryz.underlying5,Tryz.underlying9,lQ⟩
def Y2(w:iH)(b:Nat)(A:S8):iH:=
 (((((((w.setCell ⟨b,0,none⟩ (lg lJ (A.a.toNat:Int))).setCell ⟨b,1,none⟩ (lg lJ (A.b.toNat:Int))).setCell ⟨b,2,none⟩ (lg lJ (A.c.toNat:Int))).setCell ⟨b,3,none⟩ (lg lJ (A.d.toNat:Int))).setCell ⟨b,4,none⟩ (lg lJ (A.e.toNat:Int))).setCell ⟨b,5,none⟩ (lg lJ (A.f.toNat:Int))).setCell ⟨b,6,none⟩ (lg lJ (A.g.toNat:Int))).setCell ⟨b,7,none⟩ (lg lJ (A.h.toNat:Int))
theorem JJ{C:S8}(h:lN w b C.cs t)(A:S8):lN (Y2 w b A) b A.cs t:=by
 unfold S8.cs at*;unfold Y2;have:=(((((((h.set 0 (lg lJ (A.a.toNat:Int))).set 1 (lg lJ (A.b.toNat:Int))).set 2 (lg lJ (A.c.toNat:Int))).set 3 (lg lJ (A.d.toNat:Int))).set 4 (lg lJ (A.e.toNat:Int))).set 5 (lg lJ (A.f.toNat:Int))).set 6 (lg lJ (A.g.toNat:Int))).set 7 (lg lJ (A.h.toNat:Int));simp only[iN,iR,iT]at this;exact this
theorem DF{B:Nat}{w0:iH}(h:iK B w0 w)(hb:B<=b)(A:S8):iK B w0 (Y2 w b A):=
 (((((((h.setCell hb _).setCell hb _).setCell hb _).setCell hb _).setCell hb _).setCell hb _).setCell hb _).setCell hb _
theorem lN.eight{A:S8}(h:lN w b A.cs t):
  w.cell? ⟨b,0,none⟩=some (lg lJ (A.a.toNat:Int))/\w.cell? ⟨b,1,none⟩=some (lg lJ (A.b.toNat:Int))/\w.cell? ⟨b,2,none⟩=some (lg lJ (A.c.toNat:Int))/\w.cell? ⟨b,3,none⟩=some (lg lJ (A.d.toNat:Int))/\
  w.cell? ⟨b,4,none⟩=some (lg lJ (A.e.toNat:Int))/\w.cell? ⟨b,5,none⟩=some (lg lJ (A.f.toNat:Int))/\w.cell? ⟨b,6,none⟩=some (lg lJ (A.g.toNat:Int))/\w.cell? ⟨b,7,none⟩=some (lg lJ (A.h.toNat:Int)):=
 ⟨h.cell 0,h.cell 1,h.cell 2,h.cell 3,h.cell 4,h.cell 5,h.cell 6,h.cell 7⟩
theorem Qp(w:iH):iU iG 253 #[] w λe w'=>e=lF (lC vk.cs)/\iK w.heap.size w w':=by
 have hB:=iF ((iL w.heap.size w).alloc (iI _) (lG vk.cs 31));have hb:=(lN.new w vk.cs 31).eight;have A:=iF hb;clear hb;go_in;go_wp2_with fail;change bodyPost _ _ _ _ _ (w.alloc (lG vk.cs 31));have q:=A.out;clear A;generalize w.alloc (lG vk.cs 31)=w1 at*;exact iV (v:=lC vk.cs) (by simp[jr,Tryz.results253,go_sem,q];rfl) rfl ⟨rfl,hB.out⟩
theorem Wv:∃i,Tryz.prog.info? 5=some i/\i.zero=some (lg .u8 0)/\i.size=1/\i.bytes=1:=by
 obtain⟨J,hi,A,C,E⟩:=info_parts FP.hi;exact⟨J,hi,A,C,E⟩
theorem JK(m c:Nat)(L C:Int)(hL:L=m)(A:C=c)(N:m<=c)(hc:c<=1000)(w:iH):(Instr.makeSlice 86 (lg lH L) (lg lH C)).run iG w=
  .ok (lh (some ⟨w.heap.size,0,none⟩) m c) (w.alloc (lG (madeCells #[lg .u8 0] c) 5)):=by
 subst hL A;obtain⟨i,hi,E,hs,hb⟩:=Wv;have J:=run_make (P:=iG) w 86 5 i (lg .u8 0) FP.ht hi E lH lH (m:Int) (c:Int) lK lK (by rw[hb];omega) lK;simpa [hs,Value.cells]using J
theorem BU(n:Nat):(Ba n).length=9+(64 -(n+9) % 64) % 64:=by
 unfold Ba;simp;omega
def tO(n i:Nat):List UInt8:=(kI i).map λj=>jl (n*8/256^(7 - j) % 256)
theorem qh(n i:Nat)(l:List UInt8):l++tO n (i+1)=(l++tO n i)++[jl (n*8/256^(7 - i) % 256)]:=by
 unfold tO;rw[List.range_succ,List.map_append,List.append_assoc];rfl
def xu(k:Nat):List UInt8:=128::jY k 0
theorem Ww(n:Nat):Ba n=xu ((64 -(n+9) % 64) % 64)++tO n 8:=rfl
theorem Wx(n:Nat)(w:iH)(hn:n<=1099511627776):
  iU iG 255 #[lg lH n] w λe w'=>e=lF (lD #[ll ⟨(Ba n).toArray⟩,lg lH 0])/\iK w.heap.size w w':=by
 have h0:decide ((n:Int)<0)=false:=lU;have ak:decide (1099511627776<(n:Int))=false:=lW;have hp:=iF (Ww n);generalize Ba n=au at*;obtain⟨k,hk⟩:∃k,k=(64 -(n+9) % 64) % 64:=⟨_,rfl⟩;rw[<-hk]at hp;have ag:k<64:=lK;have ah:=JK (k+1) (k+9) (1+ -(((n:Int)+9) % 64) % 64) (1+ -(((n:Int)+9) % 64) % 64+8) lK lK lK lK w;have ai:=iF hn;clear hk;obtain⟨B,hB⟩:=lV w.heap.size;have V:=iF hB;clear hB;go_in;go_upto_region 5 with fail;have hB:=V.out;rw[hB];refine r9 (λW=>W.ownsRow B 5 1 (lh (some ⟨B,0,none⟩) (k+1) (k+9)) (k+1) (l5 (jY (k+1) 0))/\iK B w W) ?_ ?_
 .have Z:=kX hB.symm
  refine⟨⟨lU,.inr ⟨B,k+9,madeCells #[lg .u8 0] (k+9),rfl,iI _,?_,lK,AV,by rw[size_madeCells,Nat.mul_one],?_⟩⟩,(iL _ _).alloc Z _⟩;.rw[<-hB];exact World.alloc_heap_new w _
  .rw[toList_madeCells_one]
   simp[l5,List.take_replicate,List.map_replicate]
 rintro W ⟨C,E⟩;have aa:W.cell? ⟨B,0,none⟩=some (lg .u8 0):=by rw[C.cellAt 0 lK];simp[l5,List.replicate_succ]
 have ae:=C.frozenAt 0;have Q:=(C.stored 0 (lg .u8 128)).1;have U:=E.setCell (p:=⟨B,0,none⟩) (iI _) (lg .u8 128);clear ah E hB;have Y:=iF (iQ Q U);clear Q U C;go_upto_region 6 with fail;refine r9 (λW=>mI W B 5 (lh (some ⟨B,0,none⟩) (k+1) (k+9)) (xu k++tO n 0)/\iK B w W) ⟨?_,Y.out.2⟩ ?_
 .have:=Y.out.1
  unfold mI;have e:xu k++tO n 0=xu k:=by unfold tO;simp
  rw[e];have e2:(xu k).length=k+1:=by unfold xu;simp
  rw[e2];have e3:l5 (xu k)=(l5 (jY (k+1) 0)).set 0 (lg .u8 128):=by unfold xu l5;simp[List.replicate_succ]
  rw[e3];exact this
 clear Y aa ae W;rintro W ⟨C,E⟩;have aj:(xu k).length=k+1:=by unfold xu;simp
 generalize xu k=hd at*;generalize (1+ -(((n:Int)+9) % 64) % 64+8)=av;generalize (1+ -(((n:Int)+9) % 64) % 64)=ax;generalize (64 -((n:Int)+9) % 64) % 64=z3;generalize 64 -((n:Int)+9) % 64=z4;generalize ((n:Int)+9) % 64=z5;generalize (n:Int)+9=ay;go_wp2_with fail;go_loopw [5,26] (λv i wr=>∃j:Nat,j<=8/\i=lg lH j/\mI wr B 5 v (hd++tO n j)/\iK B w wr) (λ_ i _=>8 -(jA i).toNat);case atStart=>exact⟨0,lK,rfl,C,E⟩
 case round=>
  obtain⟨j,az,rfl,C,E⟩:=hrel;have O:B<=wr.heap.size:=by have:=E.size;have:=V.out;omega
  have aA:=ai.out;have af:j=0\/j=1\/j=2\/j=3\/j=4\/j=5\/j=6\/j=7\/j=8:=lK;rcases af with rfl|rfl|rfl|rfl|rfl|rfl|rfl|rfl|rfl
  .go_wp2_with (at_builtin;refine mP FP rfl (.tmp 29) (.tmp 38) rfl B _ _ [jl (n*8/256^7 % 256)] 1 rfl wr _ (Dr (n:=n*8/256^7 % 256) lK (Nat.mod_lt _ lM)) rfl C rfl (by simp[tO];omega) O ?_;intro v' w' A J N)
   go_roundw;case rel=>exact⟨1,lK,by go_num,by rw[qh];exact A,E.trans J⟩
   case measure=>simp[jA]
  .go_wp2_with (at_builtin;refine mP FP rfl (.tmp 29) (.tmp 38) rfl B _ _ [jl (n*8/256^6 % 256)] 1 rfl wr _ (Dr (n:=n*8/256^6 % 256) lK (Nat.mod_lt _ lM)) rfl C rfl (by simp[tO];omega) O ?_;intro v' w' A J N)
   go_roundw;case rel=>exact⟨2,lK,by go_num,by rw[qh];exact A,E.trans J⟩
   case measure=>simp[jA]
  .go_wp2_with (at_builtin;refine mP FP rfl (.tmp 29) (.tmp 38) rfl B _ _ [jl (n*8/256^5 % 256)] 1 rfl wr _ (Dr (n:=n*8/256^5 % 256) lK (Nat.mod_lt _ lM)) rfl C rfl (by simp[tO];omega) O ?_;intro v' w' A J N)
   go_roundw;case rel=>exact⟨3,lK,by go_num,by rw[qh];exact A,E.trans J⟩
   case measure=>simp[jA]
  .go_wp2_with (at_builtin;refine mP FP rfl (.tmp 29) (.tmp 38) rfl B _ _ [jl (n*8/256^4 % 256)] 1 rfl wr _ (Dr (n:=n*8/256^4 % 256) lK (Nat.mod_lt _ lM)) rfl C rfl (by simp[tO];omega) O ?_;intro v' w' A J N)
   go_roundw;case rel=>exact⟨4,lK,by go_num,by rw[qh];exact A,E.trans J⟩
   case measure=>simp[jA]
  .go_wp2_with (at_builtin;refine mP FP rfl (.tmp 29) (.tmp 38) rfl B _ _ [jl (n*8/256^3 % 256)] 1 rfl wr _ (Dr (n:=n*8/256^3 % 256) lK (Nat.mod_lt _ lM)) rfl C rfl (by simp[tO];omega) O ?_;intro v' w' A J N)
   go_roundw;case rel=>exact⟨5,lK,by go_num,by rw[qh];exact A,E.trans J⟩
   case measure=>simp[jA]
  .go_wp2_with (at_builtin;refine mP FP rfl (.tmp 29) (.tmp 38) rfl B _ _ [jl (n*8/256^2 % 256)] 1 rfl wr _ (Dr (n:=n*8/256^2 % 256) lK (Nat.mod_lt _ lM)) rfl C rfl (by simp[tO];omega) O ?_;intro v' w' A J N)
   go_roundw;case rel=>exact⟨6,lK,by go_num,by rw[qh];exact A,E.trans J⟩
   case measure=>simp[jA]
  .go_wp2_with (at_builtin;refine mP FP rfl (.tmp 29) (.tmp 38) rfl B _ _ [jl (n*8/256^1 % 256)] 1 rfl wr _ (Dr (n:=n*8/256^1 % 256) lK (Nat.mod_lt _ lM)) rfl C rfl (by simp[tO];omega) O ?_;intro v' w' A J N)
   go_roundw;case rel=>exact⟨7,lK,by go_num,by rw[qh];exact A,E.trans J⟩
   case measure=>simp[jA]
  .go_wp2_with (at_builtin;refine mP FP rfl (.tmp 29) (.tmp 38) rfl B _ _ [jl (n*8/256^0 % 256)] 1 rfl wr _ (Dr (n:=n*8/256^0 % 256) lK (Nat.mod_lt _ lM)) rfl C rfl (by simp[tO];omega) O ?_;intro v' w' A J N)
   go_roundw;case rel=>exact⟨8,lK,by go_num,by rw[qh];exact A,E.trans J⟩
   case measure=>simp[jA]
  .have Q:=C.string FP
   go_wp2_with fail;go_returns;refine⟨by rw[hp.out];rfl,by rw[V.out];exact E⟩
def tJ(A:S8->List UInt8->S8)(L:List UInt8)(p:Nat)(s r:S8):Prop:=∃k,Bb A (L.drop p) k s=r/\p+64*k=L.length
theorem tJ.step{A:S8->List UInt8->S8}{s r:S8}(h:tJ A L p s r)(hp:p+64<=L.length):tJ A L (p+64) (A s ((L.drop p).take 64)) r:=by
 obtain⟨k,hk,hl⟩:=h;obtain⟨j,rfl⟩:∃j,k=j+1:=⟨k - 1,lK⟩;rw[JA,List.drop_drop]at hk;exact⟨j,hk,lK⟩
theorem tJ.drop{A:S8->List UInt8->S8}{s r:S8}(h:tJ A L p s r):tJ A (L.drop p) 0 s r:=by
 obtain⟨k,hk,hl⟩:=h;exact⟨k,hk,by rw[jS];omega⟩
def wM(L:List UInt8)(p:Nat)(s r:S8):Prop:=tJ Jz L p s r
theorem tJ.start(A:S8->List UInt8->S8)(L:List UInt8)(s:S8)(h:L.length % 64=0):tJ A L 0 s (Bb A L (L.length/64) s):=⟨L.length/64,rfl,lK⟩
theorem wM.start(L:List UInt8)(s:S8)(h:L.length % 64=0):wM L 0 s (LW L (L.length/64) s):=tJ.start Jz L s h
theorem wM.step{s r:S8}(h:wM L p s r)(hp:p+64<=L.length):wM L (p+64) (Jz s ((L.drop p).take 64)) r:=tJ.step h hp
theorem wM.drop{s r:S8}(h:wM L p s r):wM (L.drop p) 0 s r:=tJ.drop h
theorem G7{l m:List UInt8}(h:p+64<=l.length):((l++m).drop p).take 64=(l.drop p).take 64:=by
 rw[List.drop_append_of_le_length lK,List.take_append_of_le_length (by rw[jS];omega)]
theorem ext_list(s:ByteArray)(p:Nat):(s.extract p (p+64)).data.toList=(s.data.toList.drop p).take 64:=by
 rw[Lib.extract_data];congr 1;omega
def Bf(r:S8):Nat->List UInt8
 |0=>[]
 |k+1=>Bf r k++su (r.get k)
theorem SB(r:S8):r.out=Bf r 8:=by simp[Bf,S8.out,S8.get]
theorem q8(x:UInt32):[Value.int .u8 ((x.toNat:Int)/16777216 % 256),lg .u8 ((x.toNat:Int)/65536 % 256),lg .u8 ((x.toNat:Int)/256 % 256),lg .u8 ((x.toNat:Int) % 256)]=l5 (su x):=by
 unfold l5 su;have e:∀m:Nat,((jl (m % 256)).toNat:Int)=(m:Int) % 256:=λm=>by rw[Jc _ (Nat.mod_lt _ lM)];omega
 simp only[kY,List.map_nil,e,Int.natCast_ediv];rfl
theorem Wy(s:ByteArray)(w:iH)(hs:s.size<=100000):
  iU iG 218 #[ll s] w λe w'=>e=lF (ll ⟨(Qh s.data.toList).toArray⟩)/\iK w.heap.size w w':=by
 obtain⟨B,hB⟩:=lV w.heap.size;have bC:=iF hB;rw[hB];clear hB;obtain⟨l,hl⟩:∃l,l=s.data.toList:=⟨_,rfl⟩;have aH:l.length=s.size:=by rw[hl];rfl
 obtain⟨r,aQ⟩:∃r,r=LW (l++Ba l.length) ((l++Ba l.length).length/64) vk:=⟨_,rfl⟩;have ax:Qh s.data.toList=r.out:=by rw[aQ,hl];rfl
 rw[ax];have ay:wM (l++Ba l.length) 0 vk r:=by
  rw[aQ];refine wM.start _ _ ?_;rw[jv,BU];omega
 have aU:=iF ay;have aV:=iF hl;have ak:=iF aH;clear ax aQ ay hl aH;obtain⟨q,bD⟩:∃q,q=s.size/64:=⟨_,rfl⟩;have aW:iW (((s.size:Int) -(s.size:Int) % 64)=((64*q:Nat):Int)):=by unfold iW;omega
 have aI:64*q<=s.size/\s.size<64*q+64:=lK;clear bD;have az:=iF aI;clear aI;have c1:=iF (λw=>Qp w);generalize vk=aR at*;go_in;go_wp2_with fail;refine(c1.out _).mono ?_;rintro e w1 ⟨rfl,aA⟩;unfold S8.cs;go_upto_region 3 with fail;rw[aW.out];have aJ:=bC.out;obtain⟨b3,au⟩:=lV w1.heap.size;have aK:B<=b3:=by have:=aA.size;omega
 refine r9 (λW=>lN W b3 aR.cs 31/\iK B w W) ⟨au▸lN.new w1 aR.cs _,(aJ▸aA).alloc lK _⟩ ?_;rw[au];clear aA au aJ w1;rintro W ⟨A,E⟩;go_wp2_with fail;go_loopw [5] (λi wr=>∃(p:Nat) (g:S8),i=lg lH p/\iW (p<=64*q/\p % 64=0)/\iW (wM (l++Ba l.length) p g r)/\lN wr b3 g.cs 31/\iK B w wr) (λi _=>64*q -(jA i).toNat);case atStart=>exact⟨0,aR,rfl,⟨lK,lK⟩,aU,A,E⟩
 case round=>
  obtain⟨p,g,rfl,hp,Y,A,E⟩:=hrel;by_cases hlt:p<64*q
  .have bE:p+64<=s.size:=by have bJ:=hp.out;have bK:=az.out;omega
   have Z:=λ(x:oO wr)=>(Below.blk x.is A A.lt).eight
   go_upto_region 6 with fail;refine sU 7 lQ lQ ?_;simp only[ji,jC,kU,List.drop_zero];have hsz:(s.extract p (p+64)).size=64:=by rw[ja];omega
   have ah:=iF (λw=>Ov g (s.extract p (p+64)) w hsz);have N:=Y.out.step (by rw[jv,ak.out];omega);have aL:((l++Ba l.length).drop p).take 64=(s.extract p (p+64)).data.toList:=by rw[G7 (by rw[ak.out];omega),ext_list,aV.out]
   rw[aL]at N;clear aL;generalize Jz g (s.extract p (p+64)).data.toList=aj at ah N;have aS:=iF N;clear N;clear hsz;unfold S8.cs at ah;repeat(go_big_quiet_step ((exact Calls.after (ah.out _))))
   refine kS ?_;intro x;have Q:=Below.blk x.is A A.lt;have aa:=E.trans (x.is.mono (by have:=A.lt;omega));have aB:=Q.eight;have fr:=Q.free;have aC:=iF aa;have aD:=iF Q;clear Q aa Z A E ah;obtain⟨bF,aX⟩:=x;simp only at*;go_wp2_with fail;have aY:=hp.out;exact⟨⟨p+64,aj,by go_num,⟨lK,lK⟩,aS,JJ aD.out aj,DF aC.out aK aj⟩,by simp[jA];omega⟩
  .obtain rfl:p=64*q:=by have:=hp.out;omega
   have cp:=iF (λw=>Wx s.size w lK);have aZ:=BU s.size;have ae:=Y.out.drop;rw[List.drop_append_of_le_length (by rw[ak.out];exact az.out.1)]at ae;rw[ak.out]at ae;generalize Ba s.size=ag at*;have aM:(s.extract (64*q) s.size++⟨ag.toArray⟩).data.toList=l.drop (64*q)++ag:=by
    rw[aV.out];simp only[ByteArray.data_append,Array.toList_append,Lib.extract_data];rw[List.take_of_length_le (by rw[jS,<-Lib.size_eq];omega)]
   rw[<-aM]at ae;have aF:(s.extract (64*q) s.size++⟨ag.toArray⟩).size=s.size - 64*q+ag.length:=by
    have:=size_mk ag;have:=az.out;rw[ByteArray.size_append,ja];omega
   have bg:(⟨ag.toArray⟩:ByteArray).size<=72:=by rw[size_mk];omega
   have av:(s.extract (64*q) s.size++⟨ag.toArray⟩).size<=200:=by have:=az.out;rw[aF];have:=size_mk ag;omega
   have bq:=iF av;clear av;have aN:=iF ae;have bu:=iF aF;have bI:=az.out;have bz:=A.lt;clear ae aM aF aZ;go_wp2_with fail;refine(cp.out _).mono ?_;rintro e w5 ⟨rfl,aG⟩;go_upto_region 9 with fail
   .rename_i aT
    have:=size_mk ag;exact absurd aT lK
   have ai:=E.trans (aG.mono lK);have af:=Below.blk aG A A.lt;clear cp aG A E bz bg;generalize s.extract (64*q) s.size++⟨ag.toArray⟩=R at*;clear bu;have av:=bq.out;refine r9 (λW=>lN W b3 g.cs 31/\iK B w W) ⟨af,ai⟩ ?_;clear af ai w5;rintro w5 ⟨af,ai⟩;go_wp2_with fail;go_loopw [9] (λi wr=>∃(p:Nat) (g:S8),i=lg lH p/\iW (p<=R.size)/\iW (wM R.data.toList p g r)/\lN wr b3 g.cs 31/\iK B w wr) (λi _=>R.size -(jA i).toNat);case atStart=>exact⟨0,g,rfl,jy _,aN,af,ai⟩
   case round=>
    clear af ai aN Y hp hlt g;obtain⟨p,g,rfl,hp,Y,A,E⟩:=hrel;have aY:p<=200:=je hp.out av;by_cases hlt:p+64<=R.size
    .have Z:=λ(x:oO wr)=>(Below.blk x.is A A.lt).eight
     go_upto_region 12 with fail;refine sU 7 lQ lQ ?_;simp only[ji,jC,kU,List.drop_zero];have hsz:(R.extract p (p+64)).size=64:=by rw[ja];omega
     have ah:=iF (λw=>Ov g (R.extract p (p+64)) w hsz);have N:=Y.out.step (by rw[<-Lib.size_eq];omega);rw[<-ext_list]at N;generalize Jz g (R.extract p (p+64)).data.toList=aj at ah N;have aS:=iF N;clear N hsz;unfold S8.cs at ah;repeat(go_big_quiet_step ((exact Calls.after (ah.out _))))
     refine kS ?_;intro x;have Q:=Below.blk x.is A A.lt;have aa:=E.trans (x.is.mono (by have:=A.lt;omega));have aB:=Q.eight;have fr:=Q.free;have aC:=iF aa;have aD:=iF Q;clear Q aa Z A E ah;obtain⟨bF,aX⟩:=x;simp only at*;go_wp2_with fail;exact⟨⟨p+64,aj,by go_num,hlt,aS,JJ aD.out aj,DF aC.out aK aj⟩,by simp[jA];omega⟩
    .have bA:g=r:=by
      obtain⟨k,hk,hl⟩:=Y.out;rw[<-Lib.size_eq]at hl;obtain rfl:k=0:=lK;exact hk
     clear Y;subst bA;have aB:=A.eight;have bG:=JK 0 32 0 32 rfl rfl lM lM wr;have bH:=A.lt;have aO:=iF E;have aP:=iF A;clear A E;go_upto_region 14 with fail;refine r9 (λW=>mI W B 5 (lh (some ⟨wr.heap.size,0,none⟩) 0 32) (Bf g 0)/\iK B w W/\lN W b3 g.cs 31) ⟨mI.made wr B _ _ 32 lK lM (by rw[size_madeCells]),aO.out.alloc lK _,aP.out.alloc _⟩ ?_;clear bG aB aO aP;generalize wr.heap.size=bo at*;clear wr;rintro wr ⟨J,E,A⟩;have aB:=A.eight;have au:=A.lt;clear A;go_wp2_with fail;clear aB;go_loopw [10,59] (λv i wr=>∃j:Nat,j<=8/\i=lg lH j/\mI wr B 5 v (Bf g j)/\iK B w wr/\B<=wr.heap.size) (λ_ i _=>8 -(jA i).toNat);case atStart=>exact⟨0,lK,rfl,J,E,lK⟩
     case round=>
      clear J E;obtain⟨j,bL,rfl,J,E,V⟩:=hrel;have bB:j=0\/j=1\/j=2\/j=3\/j=4\/j=5\/j=6\/j=7\/j=8:=lK;rcases bB with rfl|rfl|rfl|rfl|rfl|rfl|rfl|rfl|rfl
      .have Z:∀w',(jB 31 (lC #[lg lJ (g.a.toNat:Int),lg lJ (g.b.toNat:Int),lg lJ (g.c.toNat:Int),lg lJ (g.d.toNat:Int),lg lJ (g.e.toNat:Int),lg lJ (g.f.toNat:Int),lg lJ (g.g.toNat:Int),lg lJ (g.h.toNat:Int)]) (lg lH 0)).run iG w'=.ok (lg lJ (g.a.toNat:Int)) w':=λ_=>rfl
       go_wp2_with (at_builtin;refine mP FP rfl (.tmp 62) (.tmp 74) rfl B _ _ (su g.a) 4 rfl wr _ (q8 g.a) rfl J rfl (by simp[Bf,su]) V ?_;intro v' w' C O U);go_roundw;case rel=>exact⟨1,lK,by go_num,C,E.trans O,lK⟩
       case measure=>simp[jA]
      .have Z:∀w',(jB 31 (lC #[lg lJ (g.a.toNat:Int),lg lJ (g.b.toNat:Int),lg lJ (g.c.toNat:Int),lg lJ (g.d.toNat:Int),lg lJ (g.e.toNat:Int),lg lJ (g.f.toNat:Int),lg lJ (g.g.toNat:Int),lg lJ (g.h.toNat:Int)]) (lg lH 1)).run iG w'=.ok (lg lJ (g.b.toNat:Int)) w':=λ_=>rfl
       go_wp2_with (at_builtin;refine mP FP rfl (.tmp 62) (.tmp 74) rfl B _ _ (su g.b) 4 rfl wr _ (q8 g.b) rfl J rfl (by simp[Bf,su]) V ?_;intro v' w' C O U);go_roundw;case rel=>exact⟨2,lK,by go_num,C,E.trans O,lK⟩
       case measure=>simp[jA]
      .have Z:∀w',(jB 31 (lC #[lg lJ (g.a.toNat:Int),lg lJ (g.b.toNat:Int),lg lJ (g.c.toNat:Int),lg lJ (g.d.toNat:Int),lg lJ (g.e.toNat:Int),lg lJ (g.f.toNat:Int),lg lJ (g.g.toNat:Int),lg lJ (g.h.toNat:Int)]) (lg lH 2)).run iG w'=.ok (lg lJ (g.c.toNat:Int)) w':=λ_=>rfl
       go_wp2_with (at_builtin;refine mP FP rfl (.tmp 62) (.tmp 74) rfl B _ _ (su g.c) 4 rfl wr _ (q8 g.c) rfl J rfl (by simp[Bf,su]) V ?_;intro v' w' C O U);go_roundw;case rel=>exact⟨3,lK,by go_num,C,E.trans O,lK⟩
       case measure=>simp[jA]
      .have Z:∀w',(jB 31 (lC #[lg lJ (g.a.toNat:Int),lg lJ (g.b.toNat:Int),lg lJ (g.c.toNat:Int),lg lJ (g.d.toNat:Int),lg lJ (g.e.toNat:Int),lg lJ (g.f.toNat:Int),lg lJ (g.g.toNat:Int),lg lJ (g.h.toNat:Int)]) (lg lH 3)).run iG w'=.ok (lg lJ (g.d.toNat:Int)) w':=λ_=>rfl
       go_wp2_with (at_builtin;refine mP FP rfl (.tmp 62) (.tmp 74) rfl B _ _ (su g.d) 4 rfl wr _ (q8 g.d) rfl J rfl (by simp[Bf,su]) V ?_;intro v' w' C O U);go_roundw;case rel=>exact⟨4,lK,by go_num,C,E.trans O,lK⟩
       case measure=>simp[jA]
      .have Z:∀w',(jB 31 (lC #[lg lJ (g.a.toNat:Int),lg lJ (g.b.toNat:Int),lg lJ (g.c.toNat:Int),lg lJ (g.d.toNat:Int),lg lJ (g.e.toNat:Int),lg lJ (g.f.toNat:Int),lg lJ (g.g.toNat:Int),lg lJ (g.h.toNat:Int)]) (lg lH 4)).run iG w'=.ok (lg lJ (g.e.toNat:Int)) w':=λ_=>rfl
       go_wp2_with (at_builtin;refine mP FP rfl (.tmp 62) (.tmp 74) rfl B _ _ (su g.e) 4 rfl wr _ (q8 g.e) rfl J rfl (by simp[Bf,su]) V ?_;intro v' w' C O U);go_roundw;case rel=>exact⟨5,lK,by go_num,C,E.trans O,lK⟩
       case measure=>simp[jA]
      .have Z:∀w',(jB 31 (lC #[lg lJ (g.a.toNat:Int),lg lJ (g.b.toNat:Int),lg lJ (g.c.toNat:Int),lg lJ (g.d.toNat:Int),lg lJ (g.e.toNat:Int),lg lJ (g.f.toNat:Int),lg lJ (g.g.toNat:Int),lg lJ (g.h.toNat:Int)]) (lg lH 5)).run iG w'=.ok (lg lJ (g.f.toNat:Int)) w':=λ_=>rfl
       go_wp2_with (at_builtin;refine mP FP rfl (.tmp 62) (.tmp 74) rfl B _ _ (su g.f) 4 rfl wr _ (q8 g.f) rfl J rfl (by simp[Bf,su]) V ?_;intro v' w' C O U);go_roundw;case rel=>exact⟨6,lK,by go_num,C,E.trans O,lK⟩
       case measure=>simp[jA]
      .have Z:∀w',(jB 31 (lC #[lg lJ (g.a.toNat:Int),lg lJ (g.b.toNat:Int),lg lJ (g.c.toNat:Int),lg lJ (g.d.toNat:Int),lg lJ (g.e.toNat:Int),lg lJ (g.f.toNat:Int),lg lJ (g.g.toNat:Int),lg lJ (g.h.toNat:Int)]) (lg lH 6)).run iG w'=.ok (lg lJ (g.g.toNat:Int)) w':=λ_=>rfl
       go_wp2_with (at_builtin;refine mP FP rfl (.tmp 62) (.tmp 74) rfl B _ _ (su g.g) 4 rfl wr _ (q8 g.g) rfl J rfl (by simp[Bf,su]) V ?_;intro v' w' C O U);go_roundw;case rel=>exact⟨7,lK,by go_num,C,E.trans O,lK⟩
       case measure=>simp[jA]
      .have Z:∀w',(jB 31 (lC #[lg lJ (g.a.toNat:Int),lg lJ (g.b.toNat:Int),lg lJ (g.c.toNat:Int),lg lJ (g.d.toNat:Int),lg lJ (g.e.toNat:Int),lg lJ (g.f.toNat:Int),lg lJ (g.g.toNat:Int),lg lJ (g.h.toNat:Int)]) (lg lH 7)).run iG w'=.ok (lg lJ (g.h.toNat:Int)) w':=λ_=>rfl
       go_wp2_with (at_builtin;refine mP FP rfl (.tmp 62) (.tmp 74) rfl B _ _ (su g.h) 4 rfl wr _ (q8 g.h) rfl J rfl (by simp[Bf,su]) V ?_;intro v' w' C O U);go_roundw;case rel=>exact⟨8,lK,by go_num,C,E.trans O,lK⟩
       case measure=>simp[jA]
      .have A:=J.string FP
       go_wp2_with fail;go_returns;exact⟨by rw[SB];rfl,E⟩
def Y3(f:List UInt8->List UInt8)(l:List UInt8):Nat->List UInt8
 |0=>l
 |n+1=>f (Y3 f l n)
def G8(l:List UInt8):List UInt8:=Y3 Qh l 2
theorem S8.Md(r:S8):r.out.length=32:=rfl
theorem BV(l:List UInt8):(Qh l).length=32:=S8.Md _
theorem Ff(l:List UInt8):(G8 l).length=32:=BV _
def Yi(f:List UInt8->List UInt8):Prop:=(∀l,(f l).length=32)/\∀(s:ByteArray)(w:iH),s.size<=100000->
  iU iG 218 #[ll s] w λe w'=>e=lF (ll ⟨(f s.data.toList).toArray⟩)/\iK w.heap.size w w'
theorem Y4:Yi Qh:=⟨BV,λs w h=>Wy s w h⟩
theorem Me(f:List UInt8->List UInt8)(E:Yi f)(s:ByteArray)(w:iH)(hs:s.size<=100000):
  iU iG 180 #[ll s] w λe w'=>e=lF (ll ⟨(Y3 f s.data.toList 2).toArray⟩)/\iK w.heap.size w w':=by
 obtain⟨l,hl⟩:∃l,l=s.data.toList:=⟨_,rfl⟩;rw[<-hl];have Y:=iF hl;have J:=iF E;clear hl E;obtain⟨B,hB⟩:=lV w.heap.size;have N:=iF hB;rw[hB];clear hB;go_in;go_wp2_with fail;go_loopw [0,3] (λv i wr=>∃(k:Nat) (S:ByteArray),v=ll S/\i=lg lH k/\k<=2/\iW (S.data.toList=Y3 f l k)/\S.size<=100000/\iK B w wr) (λ_ i _=>2 -(jA i).toNat);case atStart=>exact⟨0,s,rfl,rfl,lK,Y.out.symm,hs,N.out▸iL _ _⟩
 case round=>
  obtain⟨k,S,rfl,rfl,hk,O,Q,hb⟩:=hrel;by_cases c:k<2
  .go_wp2_with fail
   refine(J.out.2 S wr Q).mono ?_;rintro e w1 ⟨rfl,U⟩;have A:=J.out.1 S.data.toList;have e1:f S.data.toList=Y3 f l (k+1):=by rw[O.out];rfl
   rw[e1]at A⊢;generalize C:(⟨(Y3 f l (k+1)).toArray⟩:ByteArray)=T;have hsz:T.size<=100000:=by rw[<-C,size_mk,A];decide
   have Z:iW (T.data.toList=Y3 f l (k+1)):=by rw[<-C];rfl
   clear C A e1;have V:=hb.trans (U.mono (by have aa:=hb.size;have ae:=N.out;omega));go_wp2_with fail;exact⟨⟨k+1,T,rfl,by go_num,lK,Z,hsz,V⟩,by simp[jA];omega⟩
  .obtain rfl:k=2:=lK
   go_wp2_with fail;go_returns;refine⟨congrArg (λb:ByteArray=>jP (Value.string b)) ?_,hb⟩;apply ByteArray.ext;apply Array.ext';exact O.out
theorem Qq(s:ByteArray)(w:iH)(hs:s.size<=100000):
  iU iG 180 #[ll s] w λe w'=>e=lF (ll ⟨(G8 s.data.toList).toArray⟩)/\iK w.heap.size w w':=
 Me Qh Y4 s w hs
def checkN(l:List UInt8):List UInt8:=(G8 l).take 4
theorem JL(s:ByteArray)(w:iH)(hs:s.size<=100000):
  iU iG 130 #[ll s] w λe w'=>e=lF (ll ⟨(checkN s.data.toList).toArray⟩)/\iK w.heap.size w w':=by
 have c1:=iF (Qq s w hs);have hl:=Ff s.data.toList;obtain⟨T,C⟩:∃T,T=G8 s.data.toList:=⟨_,rfl⟩;have hc:checkN s.data.toList=T.take 4:=by rw[C];rfl
 rw[hc];rw[<-C]at c1 hl;clear hc C;have N:(⟨T.toArray⟩:ByteArray).size=32:=by rw[size_mk,hl]
 generalize A:(⟨T.toArray⟩:ByteArray)=O at*;have E:=iF A;clear A hl;go_in;go_wp2_with fail;refine c1.out.mono ?_;rintro e w1 ⟨rfl,J⟩;go_wp2_with fail;go_returns;refine⟨congrArg (λb:ByteArray=>jP (Value.string b)) ?_,J⟩;rw[<-E.out];apply ByteArray.ext;apply Array.ext';rw[Lib.extract_data];rfl
theorem Mf(s o:ByteArray)(w:iH)(hs:s.size<=100000):
  iU iG 141 #[ll s,ll o] w λe w'=>e=lF (lu (o.toList==(⟨(checkN s.data.toList).toArray⟩:ByteArray).toList))/\iK w.heap.size w w':=by
 have c1:=iF (JL s w hs);generalize (⟨(checkN s.data.toList).toArray⟩:ByteArray)=C at*;go_in;go_wp2_with fail;refine c1.out.mono ?_;rintro e w1 ⟨rfl,A⟩;go_wp2_with fail;go_returns;exact⟨rfl,A⟩
end
section
open Go.RowKit
def Fg(b:Bool)(er:Int):Int:=if b then 0 else er
theorem q9(b:Bool)(er:Int)(w:iH):iU iG 134 #[lu b,lg lH er] w λe w'=>e=lF (lg lH (Fg b er))/\w'=w:=by
 cases b with
 |true=>
  exact vU
 |false=>
  exact vU
theorem JM(s:ByteArray)(a b:Int)(A B ps:Nat)(w:iH)(c0:w.cell? ⟨ps,0,none⟩=some (ll s))(C:a=A)(hb:b=B)(O:A<B)(E:B - A<=8)(hB:B<=s.size)(hs:s.size<=jb):
  iU iG 131 #[lg lH a,lg lH b,lq (some ⟨ps,0,none⟩)] w λe w'=>e=lF (lg lI (nT (s.extract A B).data.toList))/\w'=w:=by
 subst C hb;have J:(s.extract A B).size=B - A:=by simp[ja];omega
 have N:=iF (qC (s.extract A B) w lK lK);have Q:s.size<=9223372036854775807:=by unfold jb at hs;omega
 clear J E hs;generalize nT (s.extract A B).data.toList=U at*;go_in;go_wp2_with fail;refine N.out.mono ?_;rintro e w2 ⟨rfl,rfl⟩;go_wp2_with fail;go_returns;exact⟨rfl,rfl⟩
theorem G9(x:Int)(ps:Nat)(w:iH):iU iG 132 #[lg lH x,lq (some ⟨ps,0,none⟩)] w
  λe w'=>e=lF (.func (.func 133) #[] #[lq (some ⟨ps,0,none⟩),lq (some ⟨w.heap.size,0,none⟩)])/\w'=w.alloc (lG #[lg lH x] 3):=by
 obtain⟨W,A⟩:=lV (w.alloc (lG #[lg lH x] 3));rw[A];have E:=iF A;obtain⟨g,hg⟩:=lV w.heap.size;rw[hg];have C:∀(fn:Fn)(first cap:Array iJ)(w:iH),(kL fn first cap).run iG w=.ok (.func fn first cap) w:=λ_ _ _ _=>rfl
 go_in;go_wp2_with fail;go_returns;exact⟨rfl,rfl⟩
theorem vZ(s:ByteArray)(x:Int)(X ps A:Nat)(w:iH)(c0:w.cell? ⟨ps,0,none⟩=some (ll s))(c1:w.cell? ⟨A,0,none⟩=some (lg lH x))(C:x=X)(hs:s.size<=jb):
  iU iG 133 #[lq (some ⟨ps,0,none⟩),lq (some ⟨A,0,none⟩)] w λe w'=>e=lF (lg lH (Fg (decide (X<=s.size)) 2))/\w'=w:=by
 subst C;have N:s.size<=9223372036854775807:=by unfold jb at hs;omega
 have E:=iF q9;have hd:decide ((X:Int)<=(s.size:Int))=decide (X<=s.size):=by rw[decide_eq_decide];omega
 have J:=iF hd;clear hs hd;go_in;go_wp2_with fail;refine(E.out _ _ _).mono ?_;rintro e w2 ⟨rfl,rfl⟩;go_wp2_with fail;go_returns;exact⟨by rw[<-J.out];rfl,rfl⟩
theorem Mg(s:ByteArray)(m:Int)(ps A C:Nat)(w:iH)(c0:w.cell? ⟨ps,0,none⟩=some (ll s))(h0:ps<w.heap.size)(c1:w.cell? ⟨A,0,none⟩=some (lg lJ m))(N:A<w.heap.size)(J:(kP lJ m).wf=true)(c2:w.cell? ⟨C,0,none⟩=some (.func (.func 131) #[] #[lq (some ⟨ps,0,none⟩)]))(O:C<w.heap.size)(Q:4<=s.size)(hs:s.size<=jb):
  iU iG 135 #[lq (some ⟨C,0,none⟩),lq (some ⟨A,0,none⟩)] w λe w'=>e=lF (lg lH (Fg ((nT (s.extract 0 4).data.toList:Int)==m) 9))/\iK w.heap.size w w':=by
 have U:=iF (λx:oO w=>(JM s 0 4 0 4 ps x.at_ ((x.is.cell (p:=⟨ps,0,none⟩) h0).trans c0) rfl rfl lM lM Q hs).mono λe w' ⟨he,E⟩=>(⟨he,E▸iL _ _⟩:_/\iK x.at_.heap.size x.at_ w'));have V:=iF (λ(b:Bool) (x:oO w)=>(q9 b 9 x.at_).mono λe w' ⟨he,E⟩=>(⟨he,E▸iL _ _⟩:_/\iK x.at_.heap.size x.at_ w'));have Z:∀x:oO w,x.at_.cell? ⟨A,0,none⟩=some (lg lJ m):=λx=>(x.is.cell (p:=⟨A,0,none⟩) N).trans c1
 have aa:∀x:oO w,x.at_.cell? ⟨C,0,none⟩=some (.func (.func 131) #[] #[lq (some ⟨ps,0,none⟩)]):=λx=>(x.is.cell (p:=⟨C,0,none⟩) O).trans c2
 have hm2:0<=m/\m<=4294967295:=by simpa [Lit.wf,IntKind.min,IntKind.max,IntKind.signed,IntKind.bits]using J
 have Y:IntKind.u64.wrap m=m:=by
  simp only[IntKind.wrap,IntKind.signed,IntKind.bits];exact Int.emod_eq_of_lt hm2.1 lK
 generalize nT (s.extract 0 4).data.toList=ae at*;clear c0 c1 c2 hs J;go_in;go_upto_region 1 with fail;refine mF lQ lQ ?_;repeat(go_big_quiet_step (first|(go_at_call 131;exact Calls.after (U.out _))|(go_at_call 134;exact Calls.after (V.out _ _))))
 refine kS ?_;intro x;go_wp2_with fail;go_returns;exact⟨rfl,x.is⟩
def uS(s:ByteArray):ByteArray:=(zL (s.extract 4 16)).getD ⟨#[]⟩
def sw(s:ByteArray):Nat:=nT (s.extract 16 20).data.toList
theorem Qr(s O:ByteArray)(ps C:Nat)(w:iH)(c0:w.cell? ⟨ps,0,none⟩=some (ll s))(c1:w.cell? ⟨C,0,none⟩=some (ll O))(f1:w.frozen? ⟨C,0,none⟩=false)(Y:16<=s.size)(hs:s.size<=jb):
  iU iG 136 #[lq (some ⟨ps,0,none⟩),lq (some ⟨C,0,none⟩)] w λe w'=>e=lF (lg lH (Fg (zL (s.extract 4 16)).isSome 3))/\w'=w.setCell ⟨C,0,none⟩ (ll (uS s)):=by
 have Z:s.size<=9223372036854775807:=by unfold jb at hs;omega
 have A:=Wo (s.extract 4 16) w (by simp[ja];unfold jb at hs⊢;omega);unfold Dy at A;obtain⟨nm,hn⟩:∃nm,(zL (s.extract 4 16)).getD ⟨#[]⟩=nm:=⟨_,rfl⟩;have J:uS s=nm:=hn;rw[hn]at A;rw[J];have Q:=iF q9;obtain⟨b,hb⟩:=lV ((zL (s.extract 4 16)).isSome);rw[hb]at A⊢;obtain⟨er,E⟩:∃er:Int,(if b=true then(0:Int)else 3)=er:=⟨_,rfl⟩;rw[E]at A;have A:=iF A;have U:iW (b=(er==0)):=iF (by subst E;cases b<;>rfl);obtain⟨W,N⟩:∃W,w.setCell ⟨C,0,none⟩ (ll nm)=W:=⟨_,rfl⟩;rw[N];have V:=iF N;clear hn J hb E hs N;go_in;go_wp2_with fail;refine A.out.mono ?_;rintro e w2 ⟨rfl,rfl⟩;go_wp2_with fail;refine(Q.out _ _ _).mono ?_;rintro e w3 ⟨rfl,rfl⟩;go_wp2_with fail;go_returns;exact⟨by rw[U.out];rfl,V.out⟩
theorem SC(s:ByteArray)(most O:Int)(ps Q A E:Nat)(w:iH)(c0:w.cell? ⟨ps,0,none⟩=some (ll s))(c2:w.cell? ⟨Q,0,none⟩=some (.func (.func 131) #[] #[lq (some ⟨ps,0,none⟩)]))(b1:lN w A #[lg lH O] 3)(b3:lN w E #[lg lH most] 3)(U:E≠A)(V:20<=s.size)(hs:s.size<=jb):
  iU iG 138 #[lq (some ⟨Q,0,none⟩),lq (some ⟨A,0,none⟩),lq (some ⟨E,0,none⟩)] w λe w'=>e=lF (lg lH (Fg (decide ((sw s:Int)<=most)) 5))/\w'=w.setCell ⟨A,0,none⟩ (lg lH (sw s)):=by
 have J:iU iG 131 #[lg lH 16,lg lH 20,lq (some ⟨ps,0,none⟩)] w λe w'=>e=lF (lg lI (sw s))/\w'=w:=JM s 16 20 16 20 ps w c0 rfl rfl lM lM V hs
 have J:=iF J;have Z:=iF q9;have hlt:sw s<4294967296:=by
  have Y:=qH (s.extract 16 20).data.toList;have aa:(s.extract 16 20).data.toList.length=4:=by
   rw[jM];show(s.extract 16 20).size=4;rw[ja];omega
  rw[aa]at Y;exact Y
 generalize sw s=N at*;obtain⟨W,C⟩:∃W,w.setCell ⟨A,0,none⟩ (lg lH (N:Int))=W:=⟨_,rfl⟩;have c4:W.cell? ⟨A,0,none⟩=some (lg lH (N:Int)):=by rw[<-C];exact(b1.set 0 _).cell 0
 have c5:W.cell? ⟨E,0,none⟩=some (lg lH most):=by rw[<-C];exact(b3.setOther (a:=⟨A,0,none⟩) U _).cell 0
 obtain⟨c1,f1⟩:=b1.b1;rw[C];have ae:=iF C;clear hs b1 b3;go_in;go_upto_region 1 with fail;clear C;go_wp2_with fail;refine J.out.mono ?_;rintro e w2 ⟨rfl,rfl⟩;go_upto_region 2 with fail;rw[ae.out];go_wp2_with fail;refine(Z.out _ _ _).mono ?_;rintro e w3 ⟨rfl,rfl⟩;go_wp2_with fail;go_returns;exact⟨rfl,rfl⟩
theorem Qs(s:ByteArray)(N ps A:Nat)(w:iH)(c0:w.cell? ⟨ps,0,none⟩=some (ll s))(c1:w.cell? ⟨A,0,none⟩=some (lg lH (N:Int)))(J:24<=s.size)(hs:s.size<=jb):
  iU iG 139 #[lq (some ⟨ps,0,none⟩),lq (some ⟨A,0,none⟩)] w λe w'=>e=lF (lg lH (Fg (decide (24+N<=s.size)) 2))/\w'=w:=by
 have O:s.size<=9223372036854775807:=by unfold jb at hs;omega
 have C:=iF q9;have E:iW (decide ((N:Int)<=(s.size:Int) - 24)=decide (24+N<=s.size)):=iF (by rw[decide_eq_decide];omega);clear hs;go_in;go_wp2_with fail;refine(C.out _ _ _).mono ?_;rintro e w3 ⟨rfl,rfl⟩;go_wp2_with fail;go_returns;exact⟨by rw[<-E.out];rfl,rfl⟩
def Ow(b o:ByteArray):Bool:=o.toList==(⟨(checkN b.data.toList).toArray⟩:ByteArray).toList
theorem SE(s:ByteArray)(N ps A:Nat)(w:iH)(c0:w.cell? ⟨ps,0,none⟩=some (ll s))(h0:ps<w.heap.size)(c1:w.cell? ⟨A,0,none⟩=some (lg lH (N:Int)))(E:A<w.heap.size)(Q:24+N<=s.size)(V:N<=100000)(hs:s.size<=jb):
  iU iG 140 #[lq (some ⟨ps,0,none⟩),lq (some ⟨A,0,none⟩)] w λe w'=>e=lF (lg lH (Fg (Ow (s.extract 24 (24+N)) (s.extract 20 24)) 10))/\iK w.heap.size w w':=by
 have U:s.size<=9223372036854775807:=by unfold jb at hs;omega
 have C:∀x:oO w,iU iG 141 #[ll (s.extract 24 (24+N)),ll (s.extract 20 24)] x.at_ λe w'=>e=lF (lu (Ow (s.extract 24 (24+N)) (s.extract 20 24)))/\iK x.at_.heap.size x.at_ w':=λx=>Mf (s.extract 24 (24+N)) (s.extract 20 24) x.at_ (by simp[ja];omega)
 have C:=iF C;have J:=iF (λ(b:Bool) (x:oO w)=>(q9 b 10 x.at_).mono λe w' ⟨he,O⟩=>(⟨he,O▸iL _ _⟩:_/\iK x.at_.heap.size x.at_ w'));have Y:∀x:oO w,x.at_.cell? ⟨ps,0,none⟩=some (ll s):=λx=>(x.is.cell (p:=⟨ps,0,none⟩) h0).trans c0
 have Z:∀x:oO w,x.at_.cell? ⟨A,0,none⟩=some (lg lH (N:Int)):=λx=>(x.is.cell (p:=⟨A,0,none⟩) E).trans c1
 generalize Ow (s.extract 24 (24+N)) (s.extract 20 24)=B at*;clear c0 c1 hs;go_in;go_upto_region 1 with fail;refine mF lQ lQ ?_;repeat(go_big_quiet_step (first|(go_at_call 141;exact Calls.after (C.out _))|(go_at_call 134;exact Calls.after (J.out _ _))))
 refine kS ?_;intro x;go_wp2_with fail;go_returns;exact⟨rfl,x.is⟩
end
end Go.Proofs.YtamfcjmhnndbdaaGreatDoor


