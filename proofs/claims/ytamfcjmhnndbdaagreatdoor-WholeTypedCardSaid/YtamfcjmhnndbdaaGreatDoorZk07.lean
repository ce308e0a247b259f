/- Part 7 of the proof. -/
import Derived.Test.YtamfcjmhnndbdaaGreatDoorZk00
import Derived.Test.YtamfcjmhnndbdaaGreatDoorZk02
import Derived.Test.YtamfcjmhnndbdaaGreatDoorZk05
import Derived.Test.YtamfcjmhnndbdaaGreatDoorZk06
import Derived.RegionTactic
import Derived.ChangeAlike
import Derived.Lib.Strings
open Go.Value renaming agg→lC,bool→lu,int→lg,pointer→lq,slice→lh,string→ll,tuple→lD
open Go.Obj renaming cells→lG
open Go.IntKind renaming i64→lH,u64→lI
open Go.Ending renaming returned→lF,returned→jP
open Go.Lib renaming hid→iF
open Go.Proofs.Tryz renaming prog→iG,underlying3→kQ
open Go renaming World→iH,Value→iJ,Calls→iU,bodyPost_ret→iV,maxLen→jb,TypeId→jg,results→jr,Addr→kr,wpQuiet_nil→kS
open Nat renaming le_refl→iI,le_trans→je,lt_of_lt_of_le→jq,lt_succ_self→jE,le_succ→jF,lt_or_ge→jG,add_assoc→jI,pow_le_pow_right→jO,two_pow_add_eq_or_of_lt→kT,le_of_eq→kX
open Go.RowKit renaming Below→iK,Hid→iW,intOf→jA
open Go.RowKit.Below renaming refl→iL
open List renaming getElem?_cons_succ→iM,setIfInBounds_toArray→iN,getElem?_cons_zero→iO,getElem?_toArray→iP,set_cons_zero→iR,set_cons_succ→iT,getElem?_eq_getElem→iZ,mem_of_getElem?→jc,length_cons→jm,getElem?_eq_some_iff→jH,length_drop→jS,length_take→ky,take_length→kz,mem_cons→kD,length_eq_zero_iff→kR
open And renaming intro→iQ
open Bool renaming and_eq_true→iY
open Go.Instr renaming index→jB,lookup→j5
open Go.Sem renaming run→kJ
open Go.Lit renaming int→kP
open Array renaming getElem?_eq_none→kW
open Go.World renaming cell?→kZ
namespace Go.Proofs.YtamfcjmhnndbdaaGreatDoor
set_option linter.unusedVariables false
set_option linter.unusedSimpArgs false
set_option maxRecDepth 100000
set_option maxHeartbeats 8000000
variable {w w':iH}{b i:Nat}{p:Prop}{v:iJ}{s:List (lL TL)}{x:lL IL}{r:Option Nat}{t y:lL TL}
section
open Go.RowKit
theorem Ct(z c:Int):((z==c)=true/\iW (z=c))\/((z==c)=false/\iW (z≠c)):=by
 by_cases h:z=c;.exact .inl ⟨by simp[h],h⟩
 .exact .inr ⟨by simp[h],h⟩
theorem yI(a b:Int):(decide (a<=b)=true/\iW (a<=b))\/(decide (a<=b)=false/\iW (b<a)):=by
 by_cases h:a<=b;.exact .inl ⟨by simp[h],h⟩
 .exact .inr ⟨by simp[h],by unfold iW;omega⟩
theorem Tp(k:Int):k=1\/k=2\/k=3\/k=4\/k=5\/((k==1)=false/\(k==2)=false/\(k==3)=false/\(k==4)=false/\(k==5)=false/\iW (k≠1/\k≠2/\k≠3/\k≠4/\k≠5)):=by
 by_cases A:k=1;.exact .inl A
 by_cases C:k=2;.exact .inr (.inl C)
 by_cases E:k=3;.exact .inr (.inr (.inl E))
 by_cases J:k=4;.exact .inr (.inr (.inr (.inl J)))
 by_cases N:k=5;.exact .inr (.inr (.inr (.inr (.inl N))))
 .exact .inr (.inr (.inr (.inr (.inr ⟨by simp[A],by simp[C],by simp[E],by simp[J],by simp[N],A,C,E,J,N⟩))))
theorem Zj(z:Int):z=1\/z=2\/z=4\/z=8\/((z==1)=false/\(z==2)=false/\(z==4)=false/\(z==8)=false/\iW (z≠1/\z≠2/\z≠4/\z≠8)):=by
 by_cases A:z=1;.exact .inl A
 by_cases C:z=2;.exact .inr (.inl C)
 by_cases E:z=4;.exact .inr (.inr (.inl E))
 by_cases J:z=8;.exact .inr (.inr (.inr (.inl J)))
 .exact .inr (.inr (.inr (.inr ⟨by simp[A],by simp[C],by simp[E],by simp[J],A,C,E,J⟩)))
theorem QC(x:lL TL):∀(w:iH)(v:iJ),mD w v x.sub->x.count<=1000->
  iU iG 81 #[lC #[lg lH x.lab.kind,lg lH x.lab.size,v,lg lH x.lab.tail]] w λe w'=>e=lF (lu (x.all mi))/\iK w.heap.size w w':=by
 induction x using lL.ind with
 |h a s aL=>
  intro w v ag hc;obtain⟨kind,size,tail⟩:=a;simp only[lL.oD,lL.nk,lL.count]at ag hc⊢;obtain⟨oa,cap,rfl,aB,aM⟩:=mD.slice ag;obtain⟨g,hg⟩:=lV w.heap.size;have ah:=iF (rP (k:=kind) (z:=size) (l:=tail) (t:=63) ag);have av:=lL.og s;have aN:iW ((lL.node ⟨kind,size,tail⟩ s).all mi=(nX ⟨kind,size,tail⟩ s.length&&lL.mR mi s)):=iF rfl;obtain⟨M,aC⟩:=lV s.length;have aD:=iF aC;have bg:=iF aL;obtain⟨C,aF⟩:=lV (lL.lZ s);have bq:=iF aF;obtain⟨A,aG⟩:=lV (lL.mR mi s);have aO:=iF aG;rw[aN.out];clear aN;rw[hg]at ah⊢;rw[aC]at ah av⊢;rw[aF]at hc av;rw[aG];clear ag aB aM aL aC aF aG;go_in;go_upto_region 1 with fail;generalize w.alloc (lG #[lg lH kind,lg lH size,lh oa M cap,lg lH tail] 63)=w1 at*;obtain⟨ax,ht1,hsz,c0,c1,c2,c3⟩:=ah.out _ rfl;have aP:=iF (iQ ax ht1);clear ah ax ht1;go_upto_block 0 with fail;go_cut [3] (λsv bu=>sv=lu (nX ⟨kind,size,tail⟩ M)/\bu=w1);case first=>
   have E:=Ct (M:Int) 0;have e1:=Ct (M:Int) 1;have t0:=Ct tail 0;have Y:=yI (M:Int) 16;have aH:=yI 0 tail;have tl:=yI tail (M:Int);rcases Tp kind with rfl|rfl|rfl|rfl|rfl|⟨bG,bH,bI,bJ,bK,bz⟩
   .rcases Zj size with rfl|rfl|rfl|rfl|⟨bL,bM,z3,z4,bA⟩<;>rcases E with⟨E,J⟩|⟨E,J⟩<;>rcases t0 with⟨t0,N⟩|⟨t0,N⟩
    all_goals (go_wp2_with fail;go_meet;refine⟨congrArg Value.bool ?_,rfl⟩;have ai:=J.out;have aj:=N.out;(try (have ak:=bA.out));unfold nX;symm;first|(apply decide_eq_true;dsimp only;omega)|(apply decide_eq_false;dsimp only;omega))
   .rcases yI 1 size with⟨Z,O⟩|⟨Z,O⟩<;>rcases yI size 65536 with⟨aa,Q⟩|⟨aa,Q⟩<;>rcases E with⟨E,J⟩|⟨E,J⟩<;>rcases t0 with⟨t0,N⟩|⟨t0,N⟩
    all_goals (go_wp2_with fail;go_meet;refine⟨congrArg Value.bool ?_,rfl⟩;have ai:=J.out;have aj:=N.out;have ak:=O.out;have aI:=Q.out;unfold nX;symm;first|(apply decide_eq_true;dsimp only;omega)|(apply decide_eq_false;dsimp only;omega))
   .rcases yI 0 size with⟨Z,O⟩|⟨Z,O⟩<;>rcases yI size 65536 with⟨aa,Q⟩|⟨aa,Q⟩<;>rcases E with⟨E,J⟩|⟨E,J⟩<;>rcases t0 with⟨t0,N⟩|⟨t0,N⟩
    all_goals (go_wp2_with fail;go_meet;refine⟨congrArg Value.bool ?_,rfl⟩;have ai:=J.out;have aj:=N.out;have ak:=O.out;have aI:=Q.out;unfold nX;symm;first|(apply decide_eq_true;dsimp only;omega)|(apply decide_eq_false;dsimp only;omega))
   .rcases yI 0 size with⟨Z,O⟩|⟨Z,O⟩<;>rcases yI size 1024 with⟨aa,Q⟩|⟨aa,Q⟩<;>rcases e1 with⟨E,J⟩|⟨E,J⟩<;>rcases t0 with⟨t0,N⟩|⟨t0,N⟩
    all_goals (go_wp2_with fail;go_meet;refine⟨congrArg Value.bool ?_,rfl⟩;have ai:=J.out;have aj:=N.out;have ak:=O.out;have aI:=Q.out;unfold nX;symm;first|(apply decide_eq_true;dsimp only;omega)|(apply decide_eq_false;dsimp only;omega))
   .rcases Ct size 0 with⟨z0,aQ⟩|⟨z0,aQ⟩<;>rcases Y with⟨Y,ay⟩|⟨Y,ay⟩<;>rcases aH with⟨aH,aR⟩|⟨aH,aR⟩<;>rcases tl with⟨tl,az⟩|⟨tl,az⟩
    all_goals (go_wp2_with fail;go_meet;refine⟨congrArg Value.bool ?_,rfl⟩;have ai:=aQ.out;have aj:=ay.out;have ak:=aR.out;have aI:=az.out;unfold nX;symm;first|(apply decide_eq_true;dsimp only;omega)|(apply decide_eq_false;dsimp only;omega))
   .go_wp2_with fail
    go_meet;exact⟨congrArg Value.bool (by have:=bz.out;simp[nX];omega),rfl⟩
  case rest=>
   obtain⟨rfl,rfl⟩:=hcut;clear c0 c1 c3;obtain⟨R,aJ⟩:∃R,nX ⟨kind,size,tail⟩ M=R:=⟨_,rfl⟩;have aA:=iF aJ;rw[aJ];clear aJ;go_wp2_with fail;go_loopw [3,5] (λbv iv bB=>∃(k:Nat) (b:Bool),iv=lg lH k/\k<=M/\bv=lu b/\iW (b=(R&&lL.mR mi (s.take k)))/\iW (iK (g+1) wc bB)) (λ_ iv _=>M -(jA iv).toNat);case atStart=>exact⟨0,R,rfl,lK,rfl,by simp[iW,lL.mR],iF (iL _ _)⟩
   case round=>
    obtain⟨k,b,rfl,hk,rfl,aS,U⟩:=hrel;have bE:wr.cell? ⟨g,2,none⟩=some (lh oa M cap):=(U.out.cell (p:=⟨g,2,none⟩) (jE g)).trans c2;have aT:iW (iK g w wr):=iF (aP.out.1.trans (U.out.mono lK));have ae:iW (k=M\/b=false->b=(R&&A)):=iF λh=>by
     have V:=aS.out;rcases h with h|h
     .have aU:s.take k=s:=by rw[h,<-aD.out,kz]
      rw[aU,aO.out]at V;exact V
     .have bC:lL.mR mi s=(lL.mR mi (s.take k)&&lL.mR mi (s.drop k)):=by
       rw[<-lL.xC,List.take_append_drop]
      rw[<-aO.out,bC,h];rw[h]at V;revert V;cases R<;>cases lL.mR mi (s.take k)<;>simp
    by_cases c:k<M
    .cases b with
     |true=>
      obtain⟨bF,y,au⟩:∃h:k<s.length,∃y,s[k]? =some y:=⟨by rw[aD.out];exact c,_,iZ (by rw[aD.out];exact c)⟩;obtain⟨bN,off,u,rfl,hlt,bO,bP,bQ,bR,aV,aW⟩:=mD.at_ (Shape.lY.below aP.out.2 (hsz▸U.out)) au;have aX:=lL.uC (jc au);rw[bq.out]at aX;have bD:=iF (bg.out y (jc au) wr u aV lK);have aY:iW (y.all mi=(R&&lL.mR mi (s.take (k+1)))):=by
       have V:=aS.out;unfold iW;rw[lL.sD au,<-Bool.and_assoc,<-V];rfl
      have aZ:iW (∀w2,iK wr.heap.size wr w2->iK (g+1) wc w2):=iF λw2 af=>U.out.trans (af.mono (by have:=U.out.size;omega))
      clear aV aW;go_wp2_with fail;refine(bD.out).mono ?_;rintro e w2 ⟨rfl,af⟩;go_wp2_with fail;go_roundw;case rel=>exact⟨k+1,_,by go_num,lK,rfl,aY,iF (aZ.out _ af)⟩
      case measure=>simp[jA];omega
     |false=>
      have aK:=iF (ae.out (.inr rfl));go_wp2_with fail;go_returns;rw[aA.out,<-aK.out];exact⟨rfl,aT.out⟩
    .obtain rfl:k=M:=lK
     have aK:=iF (ae.out (.inl rfl));go_wp2_with fail;go_returns;rw[aA.out,<-aK.out];exact⟨rfl,aT.out⟩
theorem WJ(x:lL TL):nG x=(decide (x.count<=64)&&decide (x.deep<=8)&&x.all mi):=rfl
theorem Hf(x:lL TL)(w:iH)(v:iJ)(Z:mD w v x.sub)(hc:x.count<=1000):
  iU iG 47 #[lC #[lg lH x.lab.kind,lg lH x.lab.size,v,lg lH x.lab.tail]] w λe w'=>e=lF (lu (nG x))/\iK w.heap.size w w':=by
 have aa:=iF (rP (k:=x.lab.kind) (z:=x.lab.size) (l:=x.lab.tail) (t:=63) Z);obtain⟨oa,cap,rfl,ae,ak⟩:=mD.slice Z;obtain⟨g,hg⟩:=lV w.heap.size;have au:=iF (λ(W:iH) (h:mD W (lh oa x.sub.length cap) x.sub)=>QB x W _ h hc);have aB:=iF (λ(W:iH) (h:mD W (lh oa x.sub.length cap) x.sub)=>Tn x W _ h hc);have aC:=iF (λ(W:iH) (h:mD W (lh oa x.sub.length cap) x.sub)=>QC x W _ h hc);have af:=iF (WJ x);have hd:=lL.rQ x;rw[hg]at aa⊢;clear Z ae ak;generalize nG x=R at*;generalize x.count=ag at*;generalize x.deep=dn at*;generalize x.all mi=aL at*;generalize x.sub.length=M at*;have Q:=yI (ag:Int) 64;have d8:=yI (dn:Int) 8;go_in;go_upto_region 1 with fail;generalize w.alloc (lG #[lg lH x.lab.kind,lg lH x.lab.size,lh oa M cap,lg lH x.lab.tail] 63)=w1 at*;obtain⟨V,ht1,hsz,c0,c1,c2,c3⟩:=aa.out _ rfl;have ah:=iF ht1;have aD:=iF V;have av:=iF hsz;clear aa ht1 V hsz;have O:∀w2,iK w1.heap.size w1 w2->iW (iK g w w2/\mD w2 (lh oa M cap) x.sub):=λw2 h=>⟨aD.out.trans (h.mono (by have:=av.out;omega)),Shape.lY.below ah.out h⟩
 have O:=iF O;have hlt:g<w1.heap.size:=by have:=av.out;omega
 rcases Q with⟨Q,U⟩|⟨Q,U⟩
 .rcases d8 with⟨d8,ai⟩|⟨d8,ai⟩
  all_goals
   go_wp2_with fail;refine(au.out _ ah.out).mono ?_;rintro e w2 ⟨rfl,A⟩;have f2:=O.out _ A;have E:=iF A;have ax:=(A.cell (p:=⟨g,0,none⟩) hlt).trans c0;have ay:=(A.cell (p:=⟨g,1,none⟩) hlt).trans c1;have az:=(A.cell (p:=⟨g,2,none⟩) hlt).trans c2;have aA:=(A.cell (p:=⟨g,3,none⟩) hlt).trans c3;have J:g<w2.heap.size:=by have:=A.size;omega
   clear A;go_wp2_with fail;refine(aB.out _ f2.out.2).mono ?_;rintro e w3 ⟨rfl,C⟩
  .have N:=iF (E.out.trans (C.mono E.out.size))
   have f3:=O.out _ N.out;have aF:=(C.cell (p:=⟨g,0,none⟩) J).trans ax;have aG:=(C.cell (p:=⟨g,1,none⟩) J).trans ay;have aH:=(C.cell (p:=⟨g,2,none⟩) J).trans az;have aI:=(C.cell (p:=⟨g,3,none⟩) J).trans aA;clear C;go_wp2_with fail;refine(aC.out _ f3.out.2).mono ?_;rintro e w4 ⟨rfl,Y⟩;have aj:=iF (f3.out.1.trans (Y.mono (by have:=f3.out.1.size;omega)));clear Y;go_wp2_with fail;go_returns;refine⟨?_,aj.out⟩;have aJ:=U.out;have aK:=ai.out;rw[af.out,decide_eq_true (by omega:ag<=64),decide_eq_true (by omega:dn<=8)];rfl
  .have N:=iF (E.out.trans (C.mono E.out.size))
   have f3:=O.out _ N.out;clear C;go_wp2_with fail;go_returns;refine⟨?_,f3.out.1⟩;have aK:=ai.out;rw[af.out,decide_eq_false (by omega:¬dn<=8),Bool.and_false];rfl
 .go_wp2_with fail
  refine(au.out _ ah.out).mono ?_;rintro e w2 ⟨rfl,A⟩;have f2:=O.out _ A;clear A;go_wp2_with fail;go_returns;refine⟨?_,f2.out.1⟩;have aJ:=U.out;rw[af.out,decide_eq_false (by omega:¬ag<=64)];rfl
theorem a1b(z c:Int):((z !=c)=false/\iW (z=c))\/((z !=c)=true/\iW (z≠c)):=by
 by_cases h:z=c;.exact .inl ⟨by simp[h],h⟩
 .exact .inr ⟨by simp[h],h⟩
def OD:Nat->Nat:=λi=>[1,2,4,8].getD i 0
def oG(w:iH):Prop:=∀i,i<4->w.cell? ⟨1,i,none⟩=some (lg lH (OD i:Nat))
theorem oG.lt(h:oG w):1<w.heap.size:=by
 rcases jG 1 w.heap.size with A|A
 .exact A
 .have:=h 0 lM
  simp[kZ,kW A]at this
theorem oG.below{B:Nat}(h:oG w)(hb:iK B w w')(hB:1<B):oG w':=λi hi=>(hb.cell (p:=⟨_,i,none⟩) hB).trans (h i hi)
theorem oG.upd(h:oG w)(hb:ng b w w')(hB:1≠b):oG w':=λi hi=>by
 rw[World.cell?_of_block (w:=w) (hb.block _ h.lt (by simpa using hB))];exact h i hi
theorem WK(W:iH):kJ iG (jB 312 (lC #[lg lH 1,lg lH 2,lg lH 4,lg lH 8]) (lg lH 0)) W=.ok (lg lH 1) W:=rfl
theorem WL(W:iH):kJ iG (jB 312 (lC #[lg lH 1,lg lH 2,lg lH 4,lg lH 8]) (lg lH 1)) W=.ok (lg lH 2) W:=rfl
theorem WM(W:iH):kJ iG (jB 312 (lC #[lg lH 1,lg lH 2,lg lH 4,lg lH 8]) (lg lH 2)) W=.ok (lg lH 4) W:=rfl
theorem WN(W:iH):kJ iG (jB 312 (lC #[lg lH 1,lg lH 2,lg lH 4,lg lH 8]) (lg lH 3)) W=.ok (lg lH 8) W:=rfl
theorem Hg(h:p:=by
 go_wp2_with fail;go_returns;refine⟨?_,rfl⟩;rw[decide_eq_true (by have:=Z0.out;omega)];rfl):p:=h
theorem Mx(z:Int)(w:iH)(A:oG w):
  iU iG 267 #[lg lH z] w λe w'=>e=lF (lu (decide (z=1\/z=2\/z=4\/z=8)))/\w=w':=by
 have t0:=A 0 lM;have J:=A 1 lM;have N:=A 2 lM;have t3:=A 3 lM;simp only[OD]at t0 J N t3;clear A;go_in;go_wp2_with fail;go_loopw [4,6] (λ_ iv O=>∃k:Nat,iv=lg lH k/\k<=4/\iW (∀i,i<k->z≠(OD i:Nat))/\O=w) (λ_ iv _=>4 -(jA iv).toNat);case atStart=>exact⟨0,rfl,lK,iF (λi hi=>by omega),rfl⟩
 case round=>
  obtain⟨k,rfl,hk,C,rfl⟩:=hrel;have E:k=0\/k=1\/k=2\/k=3\/k=4:=lK;rcases E with rfl|rfl|rfl|rfl|rfl
  case inr.inr.inr.inr=>
   go_wp2_with fail;go_returns;refine⟨?_,rfl⟩;have q:=C.out;have Q:=q 0 lM;have U:=q 1 lM;have V:=q 2 lM;have Y:=q 3 lM;simp[OD]at Q U V Y;rw[decide_eq_false lK];rfl
  .have hix:=WK wr
   rcases Ct z 1 with⟨z0,Z0⟩|⟨z0,Z0⟩
   .exact Hg
   .go_wp2_with fail
    go_roundw;case rel=>exact⟨1,rfl,lK,iF (λi hi=>by
     rcases jG i 0 with h|h
     .exact C.out i h
     .obtain rfl:i=0:=lK
      exact Z0.out),by first|trivial|rfl⟩
    case measure=>simp[jA]
  .have hix:=WL wr
   rcases Ct z 2 with⟨z0,Z0⟩|⟨z0,Z0⟩
   .exact Hg
   .go_wp2_with fail
    go_roundw;case rel=>exact⟨2,rfl,lK,iF (λi hi=>by
     rcases jG i 1 with h|h
     .exact C.out i h
     .obtain rfl:i=1:=lK
      exact Z0.out),by first|trivial|rfl⟩
    case measure=>simp[jA]
  .have hix:=WM wr
   rcases Ct z 4 with⟨z0,Z0⟩|⟨z0,Z0⟩
   .exact Hg
   .go_wp2_with fail
    go_roundw;case rel=>exact⟨3,rfl,lK,iF (λi hi=>by
     rcases jG i 2 with h|h
     .exact C.out i h
     .obtain rfl:i=2:=lK
      exact Z0.out),by first|trivial|rfl⟩
    case measure=>simp[jA]
  .have hix:=WN wr
   rcases Ct z 8 with⟨z0,Z0⟩|⟨z0,Z0⟩
   .exact Hg
   .go_wp2_with fail
    go_roundw;case rel=>exact⟨4,rfl,lK,iF (λi hi=>by
     rcases jG i 3 with h|h
     .exact C.out i h
     .obtain rfl:i=3:=lK
      exact Z0.out),by first|trivial|rfl⟩
    case measure=>simp[jA]
theorem MB(A hi z:Int)(g:Nat)(w:iH)(c1:w.cell? ⟨g,1,none⟩=some (lg lH z)):
  iU iG 266 #[lg lH A,lg lH hi,lq (some ⟨g,0,none⟩)] w λe w'=>e=lF (lu (decide (A<=z/\z<=hi)))/\w=w':=by
 have C:=yI A z;have a2:=yI z hi;rcases C with⟨C,E⟩|⟨C,E⟩<;>rcases a2 with⟨a2,J⟩|⟨a2,J⟩
 all_goals
  go_in;go_wp2_with fail;go_returns;refine⟨?_,rfl⟩;have N:=E.out;have O:=J.out
  first
   |(rw[decide_eq_true (show A<=z/\z<=hi by omega)];rfl)
   |(rw[decide_eq_false (show¬(A<=z/\z<=hi)by omega)];rfl)
theorem OE(h:p:=by
 unfold nX;symm;first|(apply decide_eq_true;dsimp only;omega)|(apply decide_eq_false;dsimp only;omega)):p:=h
theorem MC(h:p:=by
 rintro e w2 ⟨rfl,rfl⟩;go_wp2_with fail;go_returns;refine⟨congrArg (λb=>jP (lu b)) ?_,H1.out⟩;have q1:=HPT.out (by trivial);unfold nX;dsimp only;rw[Bool.eq_iff_iff];simp only[iY,Bool.or_eq_true,decide_eq_true_eq,false_and,true_and,false_or,or_false];omega):p:=h
theorem ME(h:p:=by
 go_wp2_with fail;go_returns;refine⟨congrArg (λb=>jP (lu b)) ?_,H1.out⟩;have q1:=HPF.out (by trivial);unfold nX;symm;first|(apply decide_eq_true;dsimp only;omega)|(apply decide_eq_false;dsimp only;omega)):p:=h
theorem QD(a:TL)(oa:Option kr)(M cap:Nat)(w:iH)(ae:oG w):
  iU iG 240 #[lC #[lg lH a.kind,lg lH a.size,lh oa M cap,lg lH a.tail]] w λe w'=>e=lF (lu (nX a M))/\iK w.heap.size w w':=by
 obtain⟨kind,size,tail⟩:=a;obtain⟨g,hg⟩:=lV w.heap.size;have ah:iW (∀W,w.alloc (lG #[lg lH kind,lg lH size,lh oa M cap,lg lH tail] 63)=W->iK g w W/\oG W/\lN W g #[lg lH kind,lg lH size,lh oa M cap,lg lH tail] 63):=iF λW h=>by
  subst h;have V:=(iL w.heap.size w).alloc (iI _) (lG #[lg lH kind,lg lH size,lh oa M cap,lg lH tail] 63);exact⟨hg▸V,ae.below V ae.lt,hg▸lN.new w _ _⟩
 rw[hg];clear ae;simp only;go_in;go_upto_region 1 with fail;generalize w.alloc (lG #[lg lH kind,lg lH size,lh oa M cap,lg lH tail] 63)=w1 at*;obtain⟨Y,ht1,hB⟩:=ah.out _ rfl;have c0:w1.cell? ⟨g,0,none⟩=some (lg lH kind):=hB.cell 0;have c1:w1.cell? ⟨g,1,none⟩=some (lg lH size):=hB.cell 1;have c2:w1.cell? ⟨g,2,none⟩=some (lh oa M cap):=hB.cell 2;have c3:w1.cell? ⟨g,3,none⟩=some (lg lH tail):=hB.cell 3;have H1:=iF Y;have az:=iF ht1;have ak:=iF (Mx size w1 ht1);clear ah Y ht1 hB;have Q:=Ct (M:Int) 0;have e1:=Ct (M:Int) 1;have t0:=Ct tail 0;have C:=yI (M:Int) 16;have U:=yI 0 tail;have tl:=yI tail (M:Int);have J:=iF (λau hi=>MB au hi size g w1 c1);go_upto_region 2 with fail;go_cut [4] (λav ax=>av=lu (decide ((M:Int)=0/\tail=0))/\ax=w1);case first=>
  clear C U tl e1;rcases Q with⟨Q,ai⟩|⟨Q,ai⟩<;>rcases t0 with⟨t0,E⟩|⟨t0,E⟩
  all_goals
   go_wp2_with fail;go_meet;refine⟨congrArg Value.bool ?_,rfl⟩;have q1:=ai.out;have af:=E.out
   first
    |(rw[decide_eq_true (show(M:Int)=0/\tail=0 by omega)])
    |(rw[decide_eq_false (show¬((M:Int)=0/\tail=0)by omega)])
 case rest=>
 obtain⟨rfl,rfl⟩:=hcut;clear Q;obtain⟨p,hp⟩:=lV (decide ((M:Int)=0/\tail=0));have HPT:iW (p=true->(M:Int)=0/\tail=0):=iF λh=>by rw[h]at hp;exact of_decide_eq_true hp
 have HPF:iW (p=false->¬((M:Int)=0/\tail=0)):=iF λh=>by rw[h]at hp;exact of_decide_eq_false hp
 rw[hp];clear hp;rcases Tp kind with rfl|rfl|rfl|rfl|rfl|⟨aA,aB,aC,aD,aF,ay⟩
 .cases p
  .exact ME
  .go_wp2_with fail
   refine(ak.out).mono ?_;exact MC
 .have A:=iF (J.out 1 65536)
  cases p;.exact ME
  .go_wp2_with fail
   refine(A.out).mono ?_;exact MC
 .have A:=iF (J.out 0 65536)
  cases p;.exact ME
  .go_wp2_with fail
   refine(A.out).mono ?_;exact MC
 .have A:=iF (J.out 0 1024)
  rcases e1 with⟨e1,ag⟩|⟨e1,ag⟩<;>rcases t0 with⟨t0,E⟩|⟨t0,E⟩
  .go_wp2_with fail
   refine(A.out).mono ?_;rintro e w2 ⟨rfl,rfl⟩;go_wp2_with fail;go_returns;refine⟨congrArg (λb=>jP (lu b)) ?_,H1.out⟩;have q1:=ag.out;have af:=E.out;unfold nX;dsimp only;rw[Bool.eq_iff_iff];simp only[iY,Bool.or_eq_true,decide_eq_true_eq,false_and,true_and,false_or,or_false];omega
  all_goals
   go_wp2_with fail;go_returns;refine⟨congrArg (λb=>jP (lu b)) ?_,H1.out⟩;have q1:=ag.out;have af:=E.out;unfold nX;symm;first|(apply decide_eq_true;dsimp only;omega)|(apply decide_eq_false;dsimp only;omega)
 .rcases Ct size 0 with⟨z0,N⟩|⟨z0,N⟩
  .have O:iW (iU iG 266 #[lg lH 0,lg lH 0,lq (some ⟨g,0,none⟩)] wc λe w'=>e=lF (lu true)/\wc=w'):=iF (by
    have h:=J.out 0 0;rwa [decide_eq_true (show 0<=size/\size<=0 by have:=N.out;omega)]at h)
   rcases C with⟨C,Z⟩|⟨C,Z⟩<;>rcases U with⟨U,aj⟩|⟨U,aj⟩<;>rcases tl with⟨tl,aa⟩|⟨tl,aa⟩
   all_goals
    go_wp2_with fail;refine(O.out).mono ?_;rintro e w2 ⟨rfl,rfl⟩;go_wp2_with fail;go_returns;refine⟨congrArg (λb=>jP (lu b)) ?_,H1.out⟩;have q1:=N.out;have af:=Z.out;have aG:=aj.out;have aH:=aa.out;unfold nX;symm;first|(apply decide_eq_true;dsimp only;omega)|(apply decide_eq_false;dsimp only;omega)
  .have O:iW (iU iG 266 #[lg lH 0,lg lH 0,lq (some ⟨g,0,none⟩)] wc λe w'=>e=lF (lu false)/\wc=w'):=iF (by
    have h:=J.out 0 0;rwa [decide_eq_false (show¬(0<=size/\size<=0)by have:=N.out;omega)]at h)
   go_wp2_with fail;refine(O.out).mono ?_;rintro e w2 ⟨rfl,rfl⟩;go_wp2_with fail;go_returns;refine⟨congrArg (λb=>jP (lu b)) ?_,H1.out⟩;have q1:=N.out;exact OE
 .go_wp2_with fail
  go_returns;refine⟨congrArg (λb=>jP (lu b)) ?_,H1.out⟩;have q1:=ay.out;exact OE
abbrev wU(b:Nat)(w:iH)(v:iJ)(s:List (lL TL)):Prop:=l9.lY w (λc=>c≠b) v s
theorem wU.upd(h:wU b w v s)(A:ng b w w'):wU b w' v s:=
 Shape.lY.keep h A.size (λ_ _ h=>h) λc hc C=>A.block c hc (by simpa using λe=>C (by rw[e]))
theorem wU.of(h:mD w v s)(hb:iK w.heap.size w w')(A:w.heap.size<=b):wU b w' v s:=
 Shape.lY.keep h hb.size (λc hc _=>by omega) λc hc _=>hb.block c hc
theorem wU.any(h:wU b w v s):mD w v s:=
 Shape.lY.keep h (iI _) (λ_ _ _=>trivial) λ_ _ _=>rfl
theorem wU.at_{bo:Nat}{oa:Option kr}{n cap:Nat}(h:wU bo w (lh oa n cap) s){x:lL TL}(A:s[i]? =some x):
  ∃b off u,oa=some ⟨b,off,none⟩/\b<w.heap.size/\b≠bo/\w.cell? ⟨b,off+i*4,none⟩=some (lg lH x.lab.kind)/\w.cell? ⟨b,off+i*4+1,none⟩=some (lg lH x.lab.size)/\
   w.cell? ⟨b,off+i*4+2,none⟩=some u/\w.cell? ⟨b,off+i*4+3,none⟩=some (lg lH x.lab.tail)/\wU bo w u x.sub/\TL.wf x.lab:=by
 obtain⟨O,C,E,Q,U,J⟩:=Shape.lY.get h;cases E;obtain⟨b,off,u,e,hb,N,ho,hc,hs⟩:=J i x A;exact⟨b,off,u,e,hb,N,by simpa [l9,jI]using hc 0 lM,by simpa [l9,jI]using hc 1 lM,by simpa [l9,jI]using hc 2 lM,by simpa [l9,jI]using hc 3 lM,hs,ho⟩
def xK(w:iH)(b l:Nat):Prop:=lN w b #[lg lH (l:Int)] 3
theorem xK.upd{c l:Nat}(h:xK w b l)(C:ng c w w')(A:b≠c):xK w' b l:=C.blk h A
def zU(x:lL TL)(d l:Nat):Bool:=decide (d+x.deep<=9)&&decide (x.count<=l)&&x.all mi
def Hl(x:lL TL)(d l b:Nat)(w:iH)(e:Ending)(w':iH):Prop:=
 e=lF (lu (zU x d l))/\ng b w w'/\(∃A,A<=64/\xK w' b A)/\(zU x d l=true->xK w' b (l - x.count))
theorem Tq(x:lL TL):∀(w:iH)(v:iJ)(d l bl:Nat),wU bl w v x.sub->xK w bl l->oG w->1≠bl->1<=d->d<=9->l<=64->
  iU iG 203 #[lC #[lg lH x.lab.kind,lg lH x.lab.size,v,lg lH x.lab.tail],lg lH d,lq (some ⟨bl,0,none⟩)] w (Hl x d l bl w):=by
 induction x using lL.ind with
 |h a s bF=>
  intro w v d l bl aG hI bq ak dC dD hl;simp only[lL.oD,lL.nk]at aG⊢;obtain⟨oa,cap,rfl,bu,aM⟩:=mD.slice aG.any;obtain⟨g,hg⟩:=lV w.heap.size;have bZ:bl<g:=hg▸hI.lt;have bG:s.length<=9223372036854775807:=by unfold jb at aM;omega
  have A:iW (zU (.node a s) d l=(decide (d+(lL.mG s+1)<=9)&&decide (1+lL.lZ s<=l)&&(nX a s.length&&lL.mR mi s))):=iF rfl;have aa:iW (∀e w',e=lF (lu (zU (.node a s) d l))/\ng bl w w'/\(∃U,U<=64/\xK w' bl U)/\(zU (.node a s) d l=true->xK w' bl (l -(1+lL.lZ s)))->Hl (.node a s) d l bl w e w'):=iF λe w' h=>h
  have bz:iW (∀W,w.alloc (lG #[lg lH a.kind,lg lH a.size,lh oa s.length cap,lg lH a.tail] 63)=W->ng bl w W/\wU bl W (lh oa s.length cap) s/\xK W bl l/\oG W/\W.heap.size=g+1/\
    lN W g #[lg lH a.kind,lg lH a.size,lh oa s.length cap,lg lH a.tail] 63):=iF λW h=>by
   subst h;have N:=(iL w.heap.size w).alloc (iI _) (lG #[lg lH a.kind,lg lH a.size,lh oa s.length cap,lg lH a.tail] 63);exact⟨ng.of N,aG.upd (ng.of N),Below.blk N hI hI.lt,bq.below N bq.lt,lW,hg▸lN.new w _ _⟩
  generalize zU (.node a s) d l=R at*;obtain⟨M,bA⟩:=lV s.length;have bH:=iF bA;have cz:=iF bF;obtain⟨C,bB⟩:=lV (lL.lZ s);have bC:=iF bB;obtain⟨D,bD⟩:=lV (lL.mG s);have bI:=iF bD;rw[bA]at bz bG A⊢;rw[bB]at A aa;rw[bD]at A;clear aG bu aM bF bA bB bD hI bq;generalize bJ:Hl (.node a s) d l bl w=cB at aa⊢;clear bJ;go_in;go_upto_region 1 with fail;generalize w.alloc (lG #[lg lH a.kind,lg lH a.size,lh oa M cap,lg lH a.tail] 63)=w1 at*;obtain⟨aN,ht1,au,av,hsz,hB⟩:=bz.out _ rfl;obtain⟨c0,c1,c2,c3⟩:=hB.a4;have l0:w1.cell? ⟨bl,0,none⟩=some (lg lH l):=au.cell 0;have bK:=iF hB;clear hB bz;have E:=iF (iQ aN (iQ ht1 (iQ au av)));have bE:=iF (QD a oa M cap w1 av);clear aN ht1 au av;by_cases cd:8<d
  .have cK:decide (8<(d:Int))=true:=lW
   go_wp2_with fail;refine aa.out _ _ ⟨?_,E.out.1,⟨l,hl,E.out.2.2.1⟩,λh=> ?_⟩;.rw[A.out,decide_eq_false lK];rfl
   .rw[A.out,decide_eq_false lK]at h;simp at h
  have cK:decide (8<(d:Int))=false:=lW;by_cases cl:l=0
  .have cO:((l:Int)==0)=true:=by simp[cl]
   have bL:=iF cl;clear cl;go_wp2_with fail;refine aa.out _ _ ⟨?_,E.out.1,⟨l,hl,E.out.2.2.1⟩,λh=> ?_⟩;.rw[A.out,decide_eq_false (by have:=bL.out;omega:¬1+C<=l),Bool.and_false];rfl
   .rw[A.out,decide_eq_false (by have:=bL.out;omega:¬1+C<=l),Bool.and_false]at h;simp at h
  have cO:((l:Int)==0)=false:=lW;have dE:1<=l:=lK;have dF:d<=8:=lK;clear cl cd;generalize nX a M=K at*;cases K with
  |false=>
   go_wp2_with fail;refine(bE.out).mono ?_;rintro e w2 ⟨rfl,J⟩;have bM:=iF (E.out.1.trans (ng.of J));have bN:=iF (E.out.2.2.1.upd (ng.of J) (c:=g) lK);clear J;go_wp2_with fail;refine aa.out _ _ ⟨?_,bM.out,⟨l,hl,bN.out⟩,λh=> ?_⟩;.rw[A.out];simp
   .rw[A.out]at h;simp at h
  |true=>
   go_wp2_with fail;refine(bE.out).mono ?_;rintro e w2 ⟨rfl,J⟩;have aO:ng bl w1 w2:=ng.of J;have l2:w2.cell? ⟨bl,0,none⟩=some (lg lH l):=(E.out.2.2.1.upd (ng.of J) (c:=g) lK).cell 0;have cZ:w2.frozen? ⟨bl,0,none⟩=false:=lN.free (E.out.2.2.1.upd (ng.of J) (c:=g) lK) 0;have aP:iW (∀W,w2.setCell ⟨bl,0,none⟩ (lg lH ((l:Int) - 1))=W->ng bl w1 W/\xK W bl (l - 1)/\lN W g #[lg lH a.kind,lg lH a.size,lh oa M cap,lg lH a.tail] 63):=iF λW h=>by
    subst h;have ae:xK w2 bl l:=E.out.2.2.1.upd (ng.of J) (c:=g) lK;have O:=lN.set ae 0 (lg lH ((l:Int) - 1));refine⟨aO.set 0 _,?_,?_⟩
    .unfold xK
     rw[show((l - 1:Nat):Int)=(l:Int) - 1 by omega];exact O
    .exact lN.setOther ((ng.of (b:=bl) J).blk bK.out lK) lW _
   clear J aO;have af:=iF E.out.2;have ax:=iF E.out.1;clear E bE;go_upto_region 4 with fail;generalize w2.setCell ⟨bl,0,none⟩ (lg lH ((l:Int) - 1))=w3 at*;obtain⟨ay,aQ,az⟩:=aP.out _ rfl;have g2:w3.cell? ⟨g,2,none⟩=some (lh oa M cap):=az.cell 2;have dG:g+1<=w3.heap.size:=by have:=ay.size;omega
   have bO:=iF (iQ ay (iQ aQ az));clear aP ay aQ az l2 cZ;go_wp2_with fail
   go_loopw [8,30] (λ_ iv bP=>∃k:Nat,iv=lg lH k/\k<=M/\iW (ng bl w1 bP)/\iW (xK bP bl (l - 1 - lL.lZ (s.take k)))/\
    iW (lL.lZ (s.take k)<=l - 1/\d+1+lL.mG (s.take k)<=9/\lL.mR mi (s.take k)=true)) (λ_ iv _=>M -(jA iv).toNat)
   case atStart=>exact⟨0,rfl,lK,iF bO.out.1,iF (by simpa [lL.lZ]using bO.out.2.1),iF ⟨by simp[lL.lZ],by simp[lL.mG];omega,by simp[lL.mR]⟩⟩
   case round=>
    obtain⟨k,rfl,hk,aA,ag,aH⟩:=hrel;have df:iW (ng bl w wr):=iF (ax.out.trans aA.out);by_cases c:k<M
    .obtain⟨y,aj⟩:∃y,s[k]? =some y:=⟨_,iZ (by rw[bH.out];exact c)⟩
     obtain⟨b,off,u,rfl,hlt,dh,dH,dI,dw,dJ,aI,bQ⟩:=wU.at_ (wU.upd af.out.1 aA.out) aj;obtain⟨ou,cu,rfl,_,_⟩:=mD.slice (wU.any aI);obtain⟨V,aR⟩:=lV y.sub.length;rw[aR]at aI dw;clear aR;have aS:=lL.uT aj;have aT:=lL.uE aj;have aU:=lL.sD (p:=mi) aj;have aB:=lL.uD s (k+1);have aC:=lL.qF s (k+1);rw[bC.out]at aB;rw[bI.out]at aC;have bR:iW (y.all mi=false->lL.mR mi s=false):=iF λh=>lL.sF aj h
     have bS:=iF (iQ aS (iQ aT (iQ aU (iQ aB aC))));obtain⟨Q,aD⟩:=lV (l - 1 - lL.lZ (s.take k));have aV:=iF aD;have aJ:Q<=64:=lK;rw[aD]at ag
     have bT:iW (∀W,wr.alloc (lG #[lg lH y.lab.kind,lg lH y.lab.size,lh ou V cu,lg lH y.lab.tail] 63)=W->ng bl w1 W/\wU bl W (lh ou V cu) y.sub/\xK W bl Q/\oG W/\
       lN W wr.heap.size #[lg lH y.lab.kind,lg lH y.lab.size,lh ou V cu,lg lH y.lab.tail] 63):=iF λW h=>by
      subst h;have N:=(iL wr.heap.size wr).alloc (iI _) (lG #[lg lH y.lab.kind,lg lH y.lab.size,lh ou V cu,lg lH y.lab.tail] 63);exact⟨aA.out.trans (ng.of N),wU.upd aI (ng.of N),Below.blk N ag.out ag.out.lt,(oG.upd af.out.2.2 aA.out ak).below N (oG.upd af.out.2.2 aA.out ak).lt,lN.new wr _ _⟩
     clear aI bQ aS aT aU aB aC aD;go_upto_region 7 with fail;generalize wr.alloc (lG #[lg lH y.lab.kind,lg lH y.lab.size,lh ou V cu,lg lH y.lab.tail] 63)=w4 at*;obtain⟨aW,Cu,aX,aY,Y⟩:=bT.out _ rfl;have b0:w4.cell? ⟨wr.heap.size,0,none⟩=some (lg lH y.lab.kind):=Y.cell 0;have b1:w4.cell? ⟨wr.heap.size,1,none⟩=some (lg lH y.lab.size):=Y.cell 1;have dK:w4.cell? ⟨wr.heap.size,2,none⟩=some (lh ou V cu):=Y.cell 2;have b3:w4.cell? ⟨wr.heap.size,3,none⟩=some (lg lH y.lab.tail):=Y.cell 3
     have bU:iW (iU iG 203 #[lC #[lg lH y.lab.kind,lg lH y.lab.size,lh ou V cu,lg lH y.lab.tail],lg lH ((d:Int)+1),lq (some ⟨bl,0,none⟩)] w4
       λe w'=>e=lF (lu (zU y (d+1) Q))/\ng bl w1 w'/\(∃U,U<=64/\xK w' bl U)/\(zU y (d+1) Q=true->xK w' bl (Q - y.count))):=
      iF ((cz.out y (jc aj) w4 (lh ou V cu) (d+1) Q bl Cu aX aY ak lK lK aJ).mono λe w' h=>⟨h.1,aW.trans h.2.1,h.2.2⟩)
     have aZ:iW (zU y (d+1) Q=(decide (d+1+y.deep<=9)&&decide (y.count<=Q)&&y.all mi)):=iF rfl;clear bT aW Cu aX aY Y;generalize zU y (d+1) Q=r at*;cases r with
     |true=>
      go_wp2_with fail;refine(bU.out).mono ?_;rintro e w5 ⟨rfl,Z,⟨U,bg,ah⟩,ai⟩;have aF:=iF Z;have bV:=iF (ai (by trivial));clear Z ah ai;go_wp2_with fail;have ae:=aZ.out;have O:=bS.out;have dx:=aV.out;have dz:=aH.out;simp only[Bool.true_eq,iY,decide_eq_true_eq]at ae;go_roundw;case rel=>
       refine⟨k+1,by go_num,lK,iF aF.out,iF ?_,iF ⟨by rw[O.1];omega,by rw[O.2.1];omega,by rw[O.2.2.1,dz.2.2,ae.2];rfl⟩⟩;rw[O.1,show l - 1 -(lL.lZ (s.take k)+y.count)=Q - y.count by omega];exact bV.out
      case measure=>simp[jA];omega
     |false=>
      go_wp2_with fail;refine(bU.out).mono ?_;rintro e w5 ⟨rfl,Z,⟨U,bg,ah⟩,ai⟩;have aF:=iF (ax.out.trans Z);have bW:=iF ah;clear Z ah ai;go_wp2_with fail;have aK:R=false:=by
       have ae:=aZ.out;have O:=bS.out;have dx:=aV.out;rw[A.out];have dA:¬(d+(D+1)<=9/\1+C<=l/\lL.mR mi s=true):=by
        rintro⟨dL,g2,g3⟩;have e1:d+1+y.deep<=9:=by have:=O.2.1;have:=O.2.2.2.2;omega
        have e2:y.count<=Q:=by have:=O.1;have:=O.2.2.2.1;omega
        have e3:y.all mi=true:=by
         cases bX:y.all mi with
         |true=>rfl
         |false=>rw[bR.out bX]at g3;cases g3
        rw[decide_eq_true e1,decide_eq_true e2,e3]at ae;cases ae
       cases aL:(decide (d+(D+1)<=9)&&decide (1+C<=l)&&(true&&lL.mR mi s))with
       |false=>rfl
       |true=>
        exfalso;simp only[Bool.true_and,iY,decide_eq_true_eq]at aL;exact dA ⟨aL.1.1,aL.1.2,aL.2⟩
      exact aa.out _ _ ⟨by rw[aK];rfl,aF.out,⟨U,bg,bW.out⟩,λh=>by rw[aK]at h;cases h⟩
    .obtain rfl:k=M:=lK
     have bY:s.take k=s:=by rw[<-bH.out,kz]
     rw[bY]at ag aH;rw[bC.out,bI.out]at aH;rw[bC.out]at ag;go_wp2_with fail;have dB:=aH.out;have aK:R=true:=by
      rw[A.out,decide_eq_true lK,decide_eq_true lK,dB.2.2];rfl
     refine aa.out _ _ ⟨by rw[aK];rfl,df.out,⟨l - 1 - C,lK,ag.out⟩,λ_=> ?_⟩;rw[show l -(1+C)=l - 1 - C by omega];exact ag.out
theorem QE(x:lL TL):zU x 1 64=nG x:=by
 unfold zU nG;rw[show decide (1+x.deep<=9)=decide (x.deep<=8)by rw[decide_eq_decide];omega,Bool.and_comm (decide (x.deep<=8))]
theorem zV(x:lL TL)(w:iH)(v:iJ)(Q:mD w v x.sub)(J:oG w):
  iU iG 163 #[lC #[lg lH x.lab.kind,lg lH x.lab.size,v,lg lH x.lab.tail]] w λe w'=>e=lF (lu (nG x))/\iK w.heap.size w w':=by
 rw[<-QE];have U:=J.lt;have E:=iF (rP (k:=x.lab.kind) (z:=x.lab.size) (l:=x.lab.tail) (t:=63) Q);obtain⟨g,hg⟩:=lV w.heap.size;rw[hg]at E U⊢
 have V:iW (∀W A,w.alloc (lG #[lg lH x.lab.kind,lg lH x.lab.size,v,lg lH x.lab.tail] 63)=W->W.alloc (lG #[lg lH 64] 3)=A->
   iU iG 203 #[lC #[lg lH x.lab.kind,lg lH x.lab.size,v,lg lH x.lab.tail],lg lH 1,lq (some ⟨g+1,0,none⟩)] A λe w'=>e=lF (lu (zU x 1 64))/\iK g w w'):=iF λW A h Y=>by
  obtain⟨Z,a2,a3,_⟩:=E.out W h;have b1:=(iL W.heap.size W).alloc (iI _) (lG #[lg lH 64] 3);rw[Y]at b1;have hI:xK A (g+1) 64:=by
   subst Y;have:=lN.new W #[lg lH 64] 3;rw[a3]at this;exact this
  have aa:oG A:=(J.below (hg▸Z:iK w.heap.size w W) J.lt).below b1 lK;refine(Tq x A v 1 64 (g+1) (wU.of a2 b1 lK) hI aa lK lM lM lM).mono λe w' h=>⟨h.1,?_⟩
  have af:iK g w A:=Z.trans (b1.mono lK);exact h.2.1.below af lK (by have:=b1.size;omega)
 clear Q J;generalize zU x 1 64=R at*;go_in;go_upto_region 1 with fail;have ag:iW ((w.alloc (lG #[lg lH x.lab.kind,lg lH x.lab.size,v,lg lH x.lab.tail] 63)).heap.size=g+1):=iF (E.out _ rfl).2.2.1;have N:=iF (λA=>V.out _ A rfl);obtain⟨c0,c1,c2,c3⟩:=(E.out _ rfl).2.2.2;generalize w.alloc (lG #[lg lH x.lab.kind,lg lH x.lab.size,v,lg lH x.lab.tail] 63)=w1 at*;have hs:=ag.out;have hB:iW (∀A,w1.alloc (lG #[lg lH 64] 3)=A->iK (g+1) w1 A):=iF λA h=>by
  subst h;have:=(iL w1.heap.size w1).alloc (iI _) (lG #[lg lH 64] 3);rwa [hs]at this
 clear E V;go_upto_region 2 with fail;generalize w1.alloc (lG #[lg lH 64] 3)=w2 at*;have C:=hB.out _ rfl;have ah:=iF (N.out _ rfl);have ai:=(C.cell (p:=⟨g,0,none⟩) (jE g)).trans c0;have aj:=(C.cell (p:=⟨g,1,none⟩) (jE g)).trans c1;have ak:=(C.cell (p:=⟨g,2,none⟩) (jE g)).trans c2;have au:=(C.cell (p:=⟨g,3,none⟩) (jE g)).trans c3;clear C hB N c0 c1 c2 c3;go_wp2_with fail;refine(ah.out).mono ?_;rintro e w3 ⟨rfl,O⟩;have ae:=iF O;clear O;go_wp2_with fail;go_returns;exact⟨rfl,ae.out⟩
def zW(l A:List UInt8)(i:Nat):Prop:=A.length=l.length/\∀m,m<l.length->A[m]? =if m<i\/l.length - i<=m then l[l.length - 1 - m]? else l[m]?
theorem zW.start(l:List UInt8):zW l l 0:=⟨rfl,λm h=>by rw[if_neg lK]⟩
theorem zW.done{l A:List UInt8}(h:zW l A i)(hi:l.length<=i+i+1):A=l.reverse:=by
 apply List.ext_getElem?;intro m;by_cases C:m<l.length
 .rw[h.2 m C,List.getElem?_reverse C]
  split;.rfl
  .rw[show l.length - 1 - m=m by omega]
 .rw[List.getElem?_eq_none (by rw[h.1];omega),List.getElem?_eq_none lW]
theorem zW.step{l A:List UInt8}{j:Nat}(h:zW l A i)(Q:j+i+1=l.length)(O:i<j)(a b:UInt8)(J:A[i]? =some a)(hb:A[j]? =some b):zW l ((A.set i b).set j a) (i+1):=by
 refine⟨by simp[h.1],λm N=> ?_⟩;have C:=h.2 i lK;have E:=h.2 j lK;rw[if_neg lK]at C E;by_cases c:m=j
 .subst c
  rw[List.getElem?_set_self (by simp[h.1];omega),if_pos lK,<-J,C];congr 1;omega
 .rw[List.getElem?_set_ne lK]
  by_cases d:m=i
  .subst d
   rw[List.getElem?_set_self (by rw[h.1];omega),if_pos lK,<-hb,E];congr 1;omega
  .rw[List.getElem?_set_ne lK,h.2 m N]
   by_cases e:m<i\/l.length - i<=m;.rw[if_pos e,if_pos lK]
   .rw[if_neg e,if_neg lK]
theorem DX(l:List UInt8)(i:Nat)(b:UInt8):(l5 l).set i (lg .u8 (b.toNat:Int))=l5 (l.set i b):=by simp[l5]
theorem DY(l:List UInt8)(i:Nat)(b:UInt8)(h:l[i]? =some b):(l5 l)[i]? =some (lg .u8 (b.toNat:Int)):=by simp[l5,h]
theorem DZ{u v:iH}(h:u.grownBy v r)(k:v.grownBy w r):u.grownBy w r:=
 ⟨k.os.trans h.os,k.tape.trans h.tape,k.output.trans h.output,je h.size k.size,λi hi A=>(k.block i (jq hi h.size) A).trans (h.block i hi A)⟩
theorem MF{u v:iH}(h:u.grownBy v r):u.grownBy v.drew r:=⟨h.os,h.tape,h.output,h.size,h.block⟩
theorem D5(B g:Nat)(l:List UInt8)(k:Nat)(w:iH)(hk:k<=140737488355328)(hl:l.length=k)(ho:mI w B 5 (lh (some ⟨g,0,none⟩) k k) l):
  iU iG 265 #[lh (some ⟨g,0,none⟩) k k] w λe w'=>e=lF (lD #[])/\mI w' B 5 (lh (some ⟨g,0,none⟩) k k) l.reverse/\w.grownBy w' (some g):=by
 have au:=zW.start l;have N:=iF hl;clear hl;go_in;go_wp2_with fail;go_loopw [2,3] (λiv av wr=>∃(i:Nat) (Y:Int) (C:List UInt8),iv=lg lH i/\av=lg lH Y/\Y=(k:Int) - 1 - i/\i<=k/\zW l C i/\mI wr B 5 (lh (some ⟨g,0,none⟩) k k) C/\w.grownBy wr (some g)) (λiv _ _=>k -(jA iv).toNat);case atStart=>exact⟨0,_,l,rfl,rfl,lK,lK,au,ho,World.grownBy.refl _ _⟩
 case round=>
  obtain⟨i,Y,C,rfl,rfl,Z,hi,J,A,hg⟩:=hrel;by_cases c:(i:Int)<Y
  .obtain⟨j,rfl⟩:∃j:Nat,Y=j:=⟨Y.toNat,lK⟩
   have aa:i<j:=lK;have az:j<k:=lK;have E:C.length=k:=J.1.trans N.out;obtain⟨a,Q⟩:∃a,C[i]? =some a:=⟨_,iZ lK⟩;obtain⟨b,hb⟩:∃b,C[j]? =some b:=⟨_,iZ lK⟩;have ae:=iF (J.step (by have:=N.out;omega) aa a b Q hb);unfold mI at A;rw[E]at A;have af:wr.cell? ⟨g,i,none⟩=some (lg .u8 (a.toNat:Int)):=by rw[A.cellAt i lK,DY _ _ _ Q]
   have ag:wr.cell? ⟨g,j,none⟩=some (lg .u8 (b.toNat:Int)):=by rw[A.cellAt j lK,DY _ _ _ hb]
   have ah:=A.frozenAt i;have ai:=A.frozenAt j;have U:=iF E;have aj:=iF Z;clear Z J E Q hb;go_wp2_with fail;go_region;have V:=A.stored i (lg .u8 (b.toNat:Int));have O:=V.1.stored j (lg .u8 (a.toNat:Int));rw[DX,DX]at O;have ak:mI ((wr.setCell ⟨g,i,none⟩ (lg .u8 (b.toNat:Int))).setCell ⟨g,j,none⟩ (lg .u8 (a.toNat:Int))).drew B 5 (lh (some ⟨g,0,none⟩) k k) ((C.set i b).set j a):=by
    have:=World.ownsRow.drew O.1;unfold mI;rw[List.length_set,List.length_set,U.out];exact this
   have g3:w.grownBy ((wr.setCell ⟨g,i,none⟩ (lg .u8 (b.toNat:Int))).setCell ⟨g,j,none⟩ (lg .u8 (a.toNat:Int))).drew (some g):=MF (DZ (DZ hg V.2) O.2);have ax:=iF ak;have ay:=iF g3;clear V O ak g3 af ag ah ai A hg;generalize ((wr.setCell ⟨g,i,none⟩ (lg .u8 (b.toNat:Int))).setCell ⟨g,j,none⟩ (lg .u8 (a.toNat:Int))).drew=W at*;go_wp2_with fail;go_roundw;case rel=>exact⟨i+1,(j:Int) - 1,_,by go_num,rfl,by have:=aj.out;omega,lK,ae.out,ax.out,ay.out⟩
   case measure=>simp[jA];omega
  .have E:C.length=k:=J.1.trans N.out
   have hd:=J.done (by have:=N.out;omega);subst hd;go_wp2_with fail;go_end0;exact⟨rfl,A,hg⟩
theorem Hm{a b:ByteArray}(h:a.data.toList=b.data.toList):a=b:=by
 apply ByteArray.ext;exact Array.toList_inj.1 h
theorem MG(s:ByteArray)(w:iH)(J:s.size<=8):
  iU iG 71 #[ll s] w λe w'=>e=lF (lg lI (ql s.data.toList))/\w=w':=by
 go_in;go_wp2_with fail;go_loop [3,4] (λv i=>∃(k n:Nat),k<=s.size/\i=lg lH k/\v=lg lI n/\iW (n=ql (s.data.toList.take k))) (λ_ i=>s.size -(jA i).toNat);case atStart=>exact⟨0,0,lK,rfl,rfl,rfl⟩
 case round=>
  obtain⟨k,n,hk,rfl,rfl,hv⟩:=hrel;by_cases c:k<s.size
  .have hb:s[k].toNat<=255:=by have:=s[k].toNat_lt;omega
   have A:iW (256*n+s[k].toNat=ql (s.data.toList.take (k+1))):=by unfold iW;rw[LH s k c,FI,hv.out]
   have hlt:256*n+s[k].toNat<18446744073709551616:=by
    rw[A.out];have C:=CK (s.data.toList.take (k+1));have E:(s.data.toList.take (k+1)).length<=8:=by rw[ky];omega
    exact jq C (zI _ E)
   go_wp2_with fail;go_round;case rel=>exact⟨k+1,_,lK,by go_num,by go_num,A⟩
   case measure=>simp[jA];omega
  .exact LJ
theorem Below.row{B g:Nat}{w0:iH}(hb:iK B w0 w)(hg:w.grownBy w' (some g))(h:B<=g)(A:B<=w.heap.size):iK B w0 w':=
 hb.grown hg A λk hk=>by simp at hk;omega
theorem MH(B g:Nat)(l:List UInt8)(k:Nat)(w:iH)(hk:k<=140737488355328)(hl:l.length=k)(ho:mI w B 5 (lh (some ⟨g,0,none⟩) k k) l):
  iU iG 239 #[lh (some ⟨g,0,none⟩) k k] w λe w'=>e=lF (ll ⟨l.reverse.toArray⟩)/\w.grownBy w' (some g):=by
 have c1:=iF (D5 B g l k w hk hl ho);go_in;go_wp2_with fail;refine c1.out.mono ?_;rintro e w' ⟨rfl,A,hg⟩;have C:=A.string RD;go_wp2_with fail;go_returns;exact⟨rfl,hg⟩
theorem J9:∀ k n:Nat,n<256^k->n<18446744073709551616->(zH n).length=(Lib.bitLen n+7)/8
 |0,n,hk,h=>by simp at hk;subst hk;rw[qf];rfl
 |k+1,n,hk,h=>by
  by_cases c:n=0;.subst c;rw[qf];rfl
  .by_cases c2:n<256
   .rw[tV n lK,show n/256=0 by omega,qf]
    have A:=Lib.bitLen_le n 8 lK c2;have C:1<=Lib.bitLen n:=by rw[Lib.bitLen_half n lK lK];omega
    simp;omega
   .rw[tV n lK,jm,J9 k (n/256) (by rw[Nat.pow_succ]at hk;omega) lK,Lib.bitLen_shift 8 n lK h]
    have:n/2^8=n/256:=rfl;rw[this];omega
theorem QF(n:Nat)(w:iH)(hn:n<18446744073709551616):
  iU iG 202 #[lg lI n] w λe w'=>e=lF (ll ⟨(zH n).reverse.toArray⟩)/\iK w.heap.size w w':=by
 have hlen:=J9 8 n (jq hn lM) hn;have A:=AY 8 n (jq hn lM);have hb:Lib.bitLen n<=64:=Lib.bitLen_le n 64 lK hn;have c0:=λw=>Tryz.bits_Len64 n w lK lK
 rw[Int.toNat_natCast]at c0;have c2:=λw=>LG n ((Lib.bitLen n+7)/8) w hn lK
 have c4:=λB g w ho=>MH B g (CJ ((Lib.bitLen n+7)/8) n) ((Lib.bitLen n+7)/8) w lK (za _ n) ho
 rw[YG n,hlen];clear hlen A;generalize Lib.bitLen n=m at*;have C:=iF c0;have E:=iF c2;have J:=iF c4;clear c0 c2 c4;have N:iW ((((m:Nat):Int)+7)/8=(((m+7)/8:Nat):Int)):=by unfold iW;omega
 go_in;go_wp2_with fail;refine(C.out _).mono ?_;rintro e w' ⟨rfl,rfl⟩;go_wp2_with fail;rw[N.out];refine(E.out _).mono ?_;rintro e w1 ⟨rfl,ho,hb⟩;go_wp2_with fail;refine(J.out _ _ _ ho).mono ?_;rintro e w2 ⟨rfl,hg⟩;go_wp2_with fail;go_returns;exact⟨rfl,Below.row hb hg (iI _) hb.size⟩
theorem WO(n b:Nat)(hn:n<72057594037927936)(hb:b<256):
  bits BinOp.or IntKind.u64 (IntKind.u64.wrap ((n:Int)*256)) (b:Int)=((256*n+b:Nat):Int):=by
 rw[show((n:Int)*256)=((n*256:Nat):Int)from by simp,IntWalk.u64_in _ ⟨lK,lK⟩,u64_or_nat (n*256) b lK lK];congr 1;have:=kT (show b<2^8 by omega) n;rw[Nat.mul_comm n 256,show(256:Nat)=2^8 from rfl,<-this]
theorem MI(s:ByteArray)(w:iH)(A:1<=s.size)(E:s.size<=8):
  iU iG 268 #[ll s] w λe w'=>e=lF (lD #[lg lI (ql s.data.toList),lg lH 0])/\w=w':=by
 have c1:=iF (BM s.size w A E);go_in;go_wp2_with fail;refine c1.out.mono ?_;rintro e w' ⟨rfl,rfl⟩;go_wp2_with fail;go_loop [5,15] (λC i=>∃k n:Nat,k<=s.size/\i=lg lH k/\C=lg lI n/\iW (n=ql (s.data.toList.take k))) (λ_ i=>s.size -(jA i).toNat);case atStart=>exact⟨0,0,lK,rfl,rfl,rfl⟩
 case round=>
  obtain⟨k,n,hk,rfl,rfl,hv⟩:=hrel;by_cases c:k<s.size
  .have hb:s[k].toNat<=255:=by have:=s[k].toNat_lt;omega
   have hn:n<72057594037927936:=by
    have A:=CK (s.data.toList.take k);have J:(s.data.toList.take k).length<=7:=by rw[ky];omega
    rw[hv.out];exact jq A (je (jO lM J) lM)
   have hor:=iF (WO n s[k].toNat hn lK);have hnx:iW (256*n+s[k].toNat=ql (s.data.toList.take (k+1))):=by unfold iW;rw[LH s k c,FI,hv.out]
   clear hn;exact Oh
  .exact LJ
def oH(l:List UInt8):Nat×Nat:=match l with
 |[]=>(0,0)
 |b::r=>if 8<r.length+1 then(0,5)else if b.toNat=0 then(0,3)else(ql (b::r),0)
def n2(t:Nat×Nat):iJ:=lD #[lg lI t.1,lg lH t.2]
theorem OG(h:p:=by
 have h':0<s.data.toList.length:=by simpa using h
 have:=List.drop_eq_getElem_cons h';rw[List.drop_zero]at this;exact this):p:=h
theorem pQ(s:ByteArray)(h:0<s.size):s.data.toList=s[0]::s.data.toList.drop 1:=by
 exact OG
theorem pM(s:ByteArray)(h:0<s.size):s.toList.isEmpty=false:=by
 rw[Lib.toList_data,pQ s h];rfl
theorem vz(h:p:=by
 go_wp2_with fail;go_returns;exact⟨by rw[e.out];rfl,rfl⟩):p:=h
theorem zX(s:ByteArray)(w:iH)(hs:s.size<=jb):
  iU iG 243 #[ll s] w λe w'=>e=lF (n2 (oH s.data.toList))/\w=w':=by
 unfold jb at hs;by_cases h0:s.size=0
 .have e:s=⟨#[]⟩:=Hm (kR.1 (by simpa using h0))
  subst e;exact vU
 .have hp:0<s.size:=lK
  have E:=pM s hp;have hl:(s.data.toList.drop 1).length+1=s.size:=by rw[jS];simp;omega
  clear h0;have hb:s[0].toNat<=255:=by have:=s[0].toNat_lt;omega
  by_cases J:8<s.size
  .have e:iW (oH s.data.toList=(0,5)):=by unfold iW;rw[pQ s hp,oH,if_pos lK]
   clear hl;go_in;exact vz
  .by_cases A:s[0].toNat=0
   .have e:iW (oH s.data.toList=(0,3)):=by unfold iW;rw[pQ s hp,oH,if_neg lK,if_pos A]
    have C:((s[0].toNat:Int)==0)=true:=Lt;clear hl A;go_in;exact vz
   .have e:iW (oH s.data.toList=(ql s.data.toList,0)):=by unfold iW;rw[pQ s hp,oH,if_neg lK,if_neg A]
    have C:((s[0].toNat:Int)==0)=false:=sQ;have c1:=iF (MI s w lK lK);generalize ql s.data.toList=v at*;clear hl A;go_in;go_wp2_with fail;refine c1.out.mono ?_;rintro e w' ⟨rfl,rfl⟩;exact vz
abbrev MJ:jg:=63
def okL(l:List UInt8):Bool:=(oH l).2==0
def wN(a:TL)(x:IL):Bool:= !x.list&&okL x.text&&decide ((x.text.length:Int)<=a.size)
def xL(a:TL)(x:IL):Bool:= !x.list&&decide ((x.text.length:Int)=a.size)
def xM(a:TL)(x:IL):Bool:= !x.list&&decide ((x.text.length:Int)<=a.size)
def yR(a:TL)(x:IL)(m:Nat):Bool:=x.list&&decide ((m:Int)<=a.size)
def wO(a:TL)(n:Nat)(x:IL)(m:Nat):Bool:=x.list&&decide (m<=n)&&decide ((n:Int) - a.tail<=(m:Int))
theorem wm(k z tl:Int)(tv:iJ)(tx:ByteArray)(li:Bool)(iv:iJ):∀W,(w.alloc (lG #[lg lH k,lg lH z,tv,lg lH tl] MJ)).alloc (lG #[ll tx,lu li,iv] IT)=W->
  iK w.heap.size w W/\(W.cell? ⟨w.heap.size,0,none⟩=some (lg lH k)/\W.cell? ⟨w.heap.size,1,none⟩=some (lg lH z)/\W.cell? ⟨w.heap.size,2,none⟩=some tv/\W.cell? ⟨w.heap.size,3,none⟩=some (lg lH tl))/\
   (W.cell? ⟨w.heap.size+1,0,none⟩=some (ll tx)/\W.cell? ⟨w.heap.size+1,1,none⟩=some (lu li)/\W.cell? ⟨w.heap.size+1,2,none⟩=some iv)/\W.heap.size=w.heap.size+2:=by
 rintro W rfl;have A:=(lN.new w #[lg lH k,lg lH z,tv,lg lH tl] MJ).alloc (lG #[ll tx,lu li,iv] IT);have C:=lN.new (w.alloc (lG #[lg lH k,lg lH z,tv,lg lH tl] MJ)) #[ll tx,lu li,iv] IT;have E:(w.alloc (lG #[lg lH k,lg lH z,tv,lg lH tl] MJ)).heap.size=w.heap.size+1:=lU;rw[E]at C;exact⟨((iL _ w).alloc (iI _) _).alloc lU _,⟨A.cell 0,A.cell 1,A.cell 2,A.cell 3⟩,⟨C.cell 0,C.cell 1,C.cell 2⟩,lU⟩
theorem Tt(x:IL)(iv:iJ)(w:iH)(J:x.text.length<=jb):
  iU iG 206 #[lC #[ll (txt x),lu x.list,iv]] w λe w'=>(∃n:Nat,e=lF (lD #[lg lI n,lg lH (if x.list then 12 else((oH x.text).2:Nat):Int)]))/\iK w.heap.size w w':=by
 have hb:=lN.new w #[ll (txt x),lu x.list,iv] IT;have C:=(iL w.heap.size w).alloc (iI _) (lG #[ll (txt x),lu x.list,iv] IT);obtain⟨g,hg⟩:=lV w.heap.size;rw[hg]at hb C⊢;have A:=λW=>zX (txt x) W (by rw[vG];exact J)
 rw[JU]at A;unfold n2 at A;have A:=iF A;have E:=iF C;obtain⟨tx,li⟩:=x;dsimp only at*;generalize txt ⟨tx,li⟩=O at*;generalize oH tx=G at*;obtain⟨N,ge⟩:=G;dsimp only at A;obtain⟨c0,c1⟩:=hb.a2;clear hb C J;cases li with
 |true=>
  go_in;go_upto_region 1 with fail;generalize w.alloc _=w1 at*;go_wp2_with fail;go_returns;exact⟨⟨0,rfl⟩,E.out⟩
 |false=>
  go_in;go_upto_region 1 with fail;generalize w.alloc _=w1 at*;go_wp2_with fail;refine(A.out _).mono ?_;rintro e w2 ⟨rfl,rfl⟩;go_wp2_with fail;go_returns;exact⟨⟨N,rfl⟩,E.out⟩
theorem vH(h:p:=by
 clear HR;go_in;go_upto_region 1 with fail;generalize (w.alloc _).alloc _=w1 at*;obtain⟨hb1,⟨t0,t1,t2,t3⟩,⟨i0,i1,i2⟩,hsz⟩:=HW.out _ rfl;have HB:=iF hb1;clear HW hb1;go_wp2_with fail;go_returns;exact⟨by rw[HE.out];rfl,HB.out⟩):p:=h
theorem Tu(a:TL)(x:IL)(tv iv:iJ)(w:iH)(E:x.text.length<=jb):
  iU iG 229 #[lC #[lg lH a.kind,lg lH a.size,tv,lg lH a.tail],lC #[ll (txt x),lu x.list,iv]] w λe w'=>e=lF (lu (xL a x))/\iK w.heap.size w w':=by
 have HW:=iF (wm (w:=w) a.kind a.size a.tail tv (txt x) x.list iv);have J:=vG x;obtain⟨g,hg⟩:=lV w.heap.size;have N:x.text.length<=9223372036854775807:=by unfold jb at E;omega
 obtain⟨R,A⟩:=lV (xL a x);have HR:=iF A;rw[A];rw[hg]at HW⊢;obtain⟨tx,li⟩:=x;obtain⟨k,z,tl⟩:=a;dsimp only at*;generalize txt ⟨tx,li⟩=O at*;obtain⟨L,hL⟩:=lV tx.length;have C:=iF hL;rw[hL]at J N;clear A E hL;cases li with
 |true=>
  have HE:iW (R=false):=iF (by rw[<-HR.out];unfold xL;dsimp only;simp only[C.out];simp;first|done|omega);exact vH
 |false=>
  by_cases c:(L:Int)=z
  .skip
   have HE:iW (R=true):=iF (by rw[<-HR.out];unfold xL;dsimp only;simp only[C.out];simp;first|done|omega);have e1:((L:Int)==z)=true:=lW;exact vH
  .skip
   have HE:iW (R=false):=iF (by rw[<-HR.out];unfold xL;dsimp only;simp only[C.out];simp;first|done|omega);have e1:((L:Int)==z)=false:=lW;exact vH
theorem Tv(a:TL)(x:IL)(tv iv:iJ)(w:iH)(E:x.text.length<=jb):
  iU iG 232 #[lC #[lg lH a.kind,lg lH a.size,tv,lg lH a.tail],lC #[ll (txt x),lu x.list,iv]] w λe w'=>e=lF (lu (xM a x))/\iK w.heap.size w w':=by
 have HW:=iF (wm (w:=w) a.kind a.size a.tail tv (txt x) x.list iv);have J:=vG x;obtain⟨g,hg⟩:=lV w.heap.size;have N:x.text.length<=9223372036854775807:=by unfold jb at E;omega
 obtain⟨R,A⟩:=lV (xM a x);have HR:=iF A;rw[A];rw[hg]at HW⊢;obtain⟨tx,li⟩:=x;obtain⟨k,z,tl⟩:=a;dsimp only at*;generalize txt ⟨tx,li⟩=O at*;obtain⟨L,hL⟩:=lV tx.length;have C:=iF hL;rw[hL]at J N;clear A E hL;cases li with
 |true=>
  have HE:iW (R=false):=iF (by rw[<-HR.out];unfold xM;dsimp only;simp only[C.out];simp;first|done|omega);exact vH
 |false=>
  by_cases c:(L:Int)<=z
  .skip
   have HE:iW (R=true):=iF (by rw[<-HR.out];unfold xM;dsimp only;simp only[C.out];simp;first|done|omega);have e1:decide ((L:Int)<=z)=true:=lW;exact vH
  .skip
   have HE:iW (R=false):=iF (by rw[<-HR.out];unfold xM;dsimp only;simp only[C.out];simp;first|done|omega);have e1:decide ((L:Int)<=z)=false:=lW;exact vH
theorem Tw(a:TL)(x:IL)(ot oi:Option kr)(n m ct ci:Nat)(w:iH)(hn:n<=100000)(J:m<=100000)(htl:0<=a.tail/\a.tail<=100000):
  iU iG 233 #[lC #[lg lH a.kind,lg lH a.size,lh ot n ct,lg lH a.tail],lC #[ll (txt x),lu x.list,lh oi m ci]] w λe w'=>e=lF (lu (yR a x m))/\iK w.heap.size w w':=by
 have HW:=iF (wm (w:=w) a.kind a.size a.tail (lh ot n ct) (txt x) x.list (lh oi m ci));obtain⟨g,hg⟩:=lV w.heap.size;obtain⟨R,A⟩:=lV (yR a x m);have HR:=iF A;rw[A];rw[hg]at HW⊢;obtain⟨tx,li⟩:=x;obtain⟨k,z,tl⟩:=a;dsimp only at*;generalize txt ⟨tx,li⟩=N at*;clear A;obtain⟨C,E⟩:=htl;cases li with
 |false=>
  have HE:iW (R=false):=iF (by rw[<-HR.out];unfold yR;dsimp only;simp;first|done|omega);exact vH
 |true=>
  by_cases c:(m:Int)<=z
  .have e1:decide ((m:Int)<=z)=true:=lW
   have HE:iW (R=true):=iF (by rw[<-HR.out];unfold yR;dsimp only;simp;first|done|omega);exact vH
  .have e1:decide ((m:Int)<=z)=false:=lW
   have HE:iW (R=false):=iF (by rw[<-HR.out];unfold yR;dsimp only;simp;first|done|omega);exact vH
theorem Tx(a:TL)(x:IL)(ot oi:Option kr)(n m ct ci:Nat)(w:iH)(hn:n<=100000)(J:m<=100000)(htl:0<=a.tail/\a.tail<=100000):
  iU iG 236 #[lC #[lg lH a.kind,lg lH a.size,lh ot n ct,lg lH a.tail],lC #[ll (txt x),lu x.list,lh oi m ci]] w λe w'=>e=lF (lu (wO a n x m))/\iK w.heap.size w w':=by
 have HW:=iF (wm (w:=w) a.kind a.size a.tail (lh ot n ct) (txt x) x.list (lh oi m ci));obtain⟨g,hg⟩:=lV w.heap.size;obtain⟨R,A⟩:=lV (wO a n x m);have HR:=iF A;rw[A];rw[hg]at HW⊢;obtain⟨tx,li⟩:=x;obtain⟨k,z,tl⟩:=a;dsimp only at*;generalize txt ⟨tx,li⟩=N at*;clear A;obtain⟨C,E⟩:=htl;cases li with
 |false=>
  have HE:iW (R=false):=iF (by rw[<-HR.out];unfold wO;dsimp only;simp;first|done|omega);exact vH
 |true=>
  by_cases c:m<=n
  .have e1:decide (m<=n)=true:=lW
   by_cases c2:(n:Int) - tl<=(m:Int)
   .have e2:decide ((n:Int) - tl<=(m:Int))=true:=lW
    have HE:iW (R=true):=iF (by rw[<-HR.out];unfold wO;dsimp only;simp;first|done|omega);exact vH
   .have e2:decide ((n:Int) - tl<=(m:Int))=false:=lW
    have HE:iW (R=false):=iF (by rw[<-HR.out];unfold wO;dsimp only;simp;first|done|omega);exact vH
  .have e1:decide (m<=n)=false:=lW
   have HE:iW (R=false):=iF (by rw[<-HR.out];unfold wO;dsimp only;simp;first|done|omega);exact vH
theorem Ho(h:p:=by
 clear HR;go_in;go_upto_region 1 with fail;generalize (w.alloc _).alloc _=w1 at*;obtain⟨hb1,⟨t0,t1,t2,t3⟩,⟨i0,i1,i2⟩,hsz⟩:=HW.out _ rfl;have HB:=iF hb1;clear HW hb1;go_wp2_with fail;refine(CO.out _).mono ?_;rintro e w2 ⟨⟨nn,rfl⟩,hb2⟩;have HB2:=iF (HB.out.trans (hb2.mono lK));have x1:=(hb2.cell (p:=⟨g+1,0,none⟩) (by show g+1<_;omega)).trans i0;have x2:=(hb2.cell (p:=⟨g,1,none⟩) (by show g<_;omega)).trans t1;clear hb2 i0 i1 i2 t0 t1 t2 t3;go_wp2_with fail;go_returns;exact⟨by rw[HE.out];rfl,HB2.out⟩):p:=h
theorem Ty(a:TL)(x:IL)(tv iv:iJ)(w:iH)(E:x.text.length<=jb):
  iU iG 228 #[lC #[lg lH a.kind,lg lH a.size,tv,lg lH a.tail],lC #[ll (txt x),lu x.list,iv]] w λe w'=>e=lF (lu (wN a x))/\iK w.heap.size w w':=by
 have HW:=iF (wm (w:=w) a.kind a.size a.tail tv (txt x) x.list iv);have O:=vG x;obtain⟨g,hg⟩:=lV w.heap.size;have Q:x.text.length<=9223372036854775807:=by unfold jb at E;omega
 have CO:=λ(W:iH)=>Tt x iv W E
 obtain⟨R,J⟩:=lV (wN a x);have HR:=iF J;rw[J];rw[hg]at HW⊢;obtain⟨tx,li⟩:=x;obtain⟨k,z,tl⟩:=a;dsimp only at*;generalize txt ⟨tx,li⟩=N at*;obtain⟨L,hL⟩:=lV tx.length;have C:=iF hL;rw[hL]at O Q;clear J E hL;have CO:∀W,iU iG 206 #[lC #[ll N,lu li,iv]] W λe w'=>(∃n:Nat,e=lF (lD #[lg lI n,lg lH (if li then 12 else((oH tx).2:Nat):Int)]))/\iK W.heap.size W w':=CO
 have CO:=iF CO;cases li with
 |true=>
  have CO:iW (∀W,iU iG 206 #[lC #[ll N,lu true,iv]] W λe w'=>(∃n:Nat,e=lF (lD #[lg lI n,lg lH 12]))/\iK W.heap.size W w'):=CO;have HE:iW (R=false):=iF (by rw[<-HR.out];unfold wN;dsimp only;first|rfl|(rw[A.out,C.out];simp;first|done|omega));exact Ho
 |false=>
  have CO:iW (∀W,iU iG 206 #[lC #[ll N,lu false,iv]] W λe w'=>(∃n:Nat,e=lF (lD #[lg lI n,lg lH ((oH tx).2:Nat)]))/\iK W.heap.size W w'):=CO;have A:iW (okL tx=((oH tx).2==0)):=iF rfl;generalize (oH tx).2=GE at*;by_cases c0:GE=0
  .subst c0
   by_cases c:(L:Int)<=z
   .have e1:decide ((L:Int)<=z)=true:=lW
    have HE:iW (R=true):=iF (by rw[<-HR.out];unfold wN;dsimp only;first|rfl|(rw[A.out,C.out];simp;first|done|omega));exact Ho
   .have e1:decide ((L:Int)<=z)=false:=lW
    have HE:iW (R=false):=iF (by rw[<-HR.out];unfold wN;dsimp only;first|rfl|(rw[A.out,C.out];simp;first|done|omega));exact Ho
  .have U:((GE:Int)==0)=false:=lW
   have HE:iW (R=false):=iF (by rw[<-HR.out];unfold wN;dsimp only;first|rfl|(rw[A.out,C.out];simp;first|done|omega));exact Ho
end
section
open Go.RowKit Go.Maps
def rf:Fh (iJ×iJ) where
 ev p:=lC #[p.1,p.2]
 R v:=match v with
  | lC cs=>match cs.toList with
   |[a,b]=>some (.held (a,b),[])
   |_=>none
  |_=>none
 lay x:=rfl
 inv v z h:=by
  cases v with
  |agg cs=>
   dsimp only at h;split at h
   .rename_i a b he
    cases h;refine⟨(a,b),?_,rfl⟩;congr 1;apply Array.ext';rw[he]
   .cases h
  |_=>cases h
def Zk:Cs iG 3 Int:=intKeys kQ
abbrev QG:jg:=235
def MK(f:FuncId):iJ:=.func (.func f) #[] #[]
def kf1:iJ×iJ:=(MK 228,MK 226)
def kf2:iJ×iJ:=(MK 229,MK 230)
def kf3:iJ×iJ:=(MK 232,MK 226)
def kf4:iJ×iJ:=(MK 233,MK 234)
def kf5:iJ×iJ:=(MK 236,MK 237)
def MM:List (Int×(iJ×iJ)):=[(5,kf5),(4,kf4),(3,kf3),(2,kf2),(1,kf1)]
theorem QH(w:iH):(zeroValue 239).run iG w=.ok (rf.ev (.nilFunc,.nilFunc)) w:=rfl
def uV(w:iH)(b:Nat):Prop:=oU Zk rf w b 5 MM
theorem uV.look(h:uV w b)(k:Int)(hk:(kP lH k).wf=true)(p:iJ×iJ)(hp:vo MM k=some p):
  (j5 QG (.map (some b)) (lg lH k) false).run iG w=.ok (lC #[p.1,p.2]) w:=by
 have A:=oU.look (x:=k) h Tryz.underlying235 QH hk;rw[hp]at A;exact A
theorem uV.below(h:uV w b)(hb:iK w.heap.size w w'):uV w' b:=oU.below h hb
theorem Ka(w:iH):iU iG 196 #[] w λe w'=>e=lF (.map (some w.heap.size))/\uV w' w.heap.size/\iK w.heap.size w w':=by
 have aB:=@run_makeMap iG;obtain⟨g,hg⟩:=lV w.heap.size;have O:=oU.made Zk rf w;have J:=(iL w.heap.size w).alloc (iI _) (.map #[] 0);have Q:(w.alloc (.map #[] 0)).heap.size=g+1:=by simp[hg]
 rw[hg]at O J;have O:=iF O;have U:=iF J;rw[hg];clear J;go_in;go_upto_region 2 with fail
 go_wp2_with (first
  |(refine nZ (E:=Zk) (F:=rf) (x:=(1:Int)) (y:=kf1) rfl _ _ _ rfl Tryz.underlying235 O.out rfl rfl (show(kP .i64 1).wf=true by decide) rfl wJ ?_;intro w2 A C;have ag:=iF A;have V:=iF C;clear A C)
  |(refine nZ (E:=Zk) (F:=rf) (x:=(2:Int)) (y:=kf2) rfl _ _ _ rfl Tryz.underlying235 ag.out rfl rfl (show(kP .i64 2).wf=true by decide) rfl wJ ?_;intro w2 A C;have ah:=iF A;have Y:=iF C;clear A C)
  |(refine nZ (E:=Zk) (F:=rf) (x:=(3:Int)) (y:=kf3) rfl _ _ _ rfl Tryz.underlying235 ah.out rfl rfl (show(kP .i64 3).wf=true by decide) rfl wJ ?_;intro w2 A C;have ai:=iF A;have Z:=iF C;clear A C)
  |(refine nZ (E:=Zk) (F:=rf) (x:=(4:Int)) (y:=kf4) rfl _ _ _ rfl Tryz.underlying235 ai.out rfl rfl (show(kP .i64 4).wf=true by decide) rfl wJ ?_;intro w2 A C;have aj:=iF A;have aa:=iF C;clear A C)
  |(refine nZ (E:=Zk) (F:=rf) (x:=(5:Int)) (y:=kf5) rfl _ _ _ rfl Tryz.underlying235 aj.out rfl rfl (show(kP .i64 5).wf=true by decide) rfl wJ ?_;intro w2 A C;have ak:=iF A;have ae:=iF C;clear A C))
 go_returns;have N:∀{a b:iH},ng g a b->g<=a.heap.size->iK g w a->g<=b.heap.size/\iK g w b:=λaf hs hb=>⟨je hs af.size,af.below hb (iI _) hs⟩
 obtain⟨au,b1⟩:=N V.out (by rw[Q];exact jF _) U.out;obtain⟨av,ax⟩:=N Y.out au b1;obtain⟨ay,b3⟩:=N Z.out av ax;obtain⟨az,b4⟩:=N aa.out ay b3;obtain⟨aC,aA⟩:=N ae.out az b4;exact⟨rfl,ak.out,aA⟩
def pE(t:lL TL)(i:Nat):Option (lL TL):=if t.lab.kind=4 then t.sub[0]? else t.sub[i]?
theorem Tz(h:p:=by
 have HQ:=iF ((((hB2.set 0 (lg lH yk)).set 1 (lg lH yz)).set 2 (lh ou un uc)).set 3 (lg lH yl));have MN:=iF ((((hbe.setCell (p:=⟨g+1,0,none⟩) (jF _) (lg lH yk)).setCell (p:=⟨g+1,1,none⟩) (jF _) (lg lH yz)).setCell (p:=⟨g+1,2,none⟩) (jF _) (lh ou un uc)).setCell (p:=⟨g+1,3,none⟩) (jF _) (lg lH yl));clear HW c0 c1 c2 c3 hB1 hB2 hbe;go_wp2_with fail;have d0:=HQ.out.cell 0;have d1:=HQ.out.cell 1;have d2:=HQ.out.cell 2;have d3:=HQ.out.cell 3;simp only[iN,iR,iT,iP,iO,iM]at d0 d1 d2 d3;refine iV (v:=lC #[lg lH yk,lg lH yz,lh ou un uc,lg lH yl]) (by simp[jr,Tryz.results198,go_sem,d0,d1,d2,d3]) rfl ⟨rfl,MN.out⟩):p:=h
theorem Hq(t:lL TL)(i:Nat)(w:iH)(tv:iJ)(ak:mD w tv t.sub)(y:lL TL)(ou:Option kr)(un uc:Nat)(ag:∃b off,(∃n cap,tv=lh (some ⟨b,off,none⟩) n cap/\(if t.lab.kind=4 then 0 else i)<n/\n<=100000)/\b<w.heap.size/\w.cell? ⟨b,off+(if t.lab.kind=4 then 0 else i)*4,none⟩=some (lg lH y.lab.kind)/\
   w.cell? ⟨b,off+(if t.lab.kind=4 then 0 else i)*4+1,none⟩=some (lg lH y.lab.size)/\w.cell? ⟨b,off+(if t.lab.kind=4 then 0 else i)*4+2,none⟩=some (lh ou un uc)/\w.cell? ⟨b,off+(if t.lab.kind=4 then 0 else i)*4+3,none⟩=some (lg lH y.lab.tail)):
  iU iG 198 #[lC #[lg lH t.lab.kind,lg lH t.lab.size,tv,lg lH t.lab.tail],lg lH i] w λe w'=>e=lF (lC #[lg lH y.lab.kind,lg lH y.lab.size,lh ou un uc,lg lH y.lab.tail])/\iK w.heap.size w w':=by
 obtain⟨b,off,⟨n,cap,rfl,hin,aD⟩,hb,c0,c1,c2,c3⟩:=ag;obtain⟨A,C⟩:=lV ((if t.lab.kind=4 then 0 else i));rw[C]at hin c0 c1 c2 c3;have J:(t.lab.kind=4/\A=0)\/(t.lab.kind≠4/\A=i):=by
  by_cases hk:t.lab.kind=4;.exact .inl ⟨hk,by rw[<-C,if_pos hk]⟩
  .exact .inr ⟨hk,by rw[<-C,if_neg hk]⟩
 clear C ak;obtain⟨k,N⟩:=lV t.lab.kind;obtain⟨z,Z⟩:=lV t.lab.size;obtain⟨tl,aa⟩:=lV t.lab.tail;obtain⟨yk,O⟩:=lV y.lab.kind;obtain⟨yz,Q⟩:=lV y.lab.size;obtain⟨yl,U⟩:=lV y.lab.tail;rw[N,Z,aa,O,Q,U];rw[N]at J;rw[O]at c0;rw[Q]at c1;rw[U]at c3;clear N Z aa O Q U;obtain⟨g,hg⟩:=lV w.heap.size;have ae:=lN.new w #[lg lH k,lg lH z,lh (some ⟨b,off,none⟩) n cap,lg lH tl] MJ;have af:=(iL w.heap.size w).alloc (iI _) (lG #[lg lH k,lg lH z,lh (some ⟨b,off,none⟩) n cap,lg lH tl] MJ);have E:=af.alloc lU (lG #[lg lH 0,lg lH 0,lh none 0 0,lg lH 0] MJ);have ah:(w.alloc (lG #[lg lH k,lg lH z,lh (some ⟨b,off,none⟩) n cap,lg lH tl] MJ)).heap.size=g+1:=by simp[hg]
 have V:=lN.new (w.alloc (lG #[lg lH k,lg lH z,lh (some ⟨b,off,none⟩) n cap,lg lH tl] MJ)) #[lg lH 0,lg lH 0,lh none 0 0,lg lH 0] MJ;rw[ah]at V;have Y:=ae.alloc (lG #[lg lH 0,lg lH 0,lh none 0 0,lg lH 0] MJ);rw[hg]at Y E hb⊢
 have HW:iW (∀W,(w.alloc (lG #[lg lH k,lg lH z,lh (some ⟨b,off,none⟩) n cap,lg lH tl] MJ)).alloc (lG #[lg lH 0,lg lH 0,lh none 0 0,lg lH 0] MJ)=W->
   lN W g #[lg lH k,lg lH z,lh (some ⟨b,off,none⟩) n cap,lg lH tl] MJ/\lN W (g+1) #[lg lH 0,lg lH 0,lh none 0 0,lg lH 0] MJ/\iK g w W):=iF λW h=>by subst h;exact⟨Y,V,E⟩
 clear ae V Y af E ah;rcases J with⟨rfl,rfl⟩|⟨hk,rfl⟩
 .rw[Nat.zero_mul,Nat.add_zero]at c0 c1 c2 c3
  go_in;go_upto_region 1 with fail;obtain⟨hB1,hB2,hbe⟩:=HW.out _ rfl;generalize (w.alloc _).alloc _=w1 at*;have ai:=iF hbe;have aj:=iF hB2;have au:=hB1.c0;have av:=hB1.c2;obtain⟨r0,r1,r2,r3,z0,ax,ay,z3⟩:=hB2.b4;have az:=(hbe.cell (p:=⟨b,off,none⟩) hb).trans c0;have aA:=(hbe.cell (p:=⟨b,off+1,none⟩) hb).trans c1;have aB:=(hbe.cell (p:=⟨b,off+2,none⟩) hb).trans c2;have aC:=(hbe.cell (p:=⟨b,off+3,none⟩) hb).trans c3;exact Tz
 .have aF:(k==4)=false:=by simp[hk]
  clear hk;go_in;go_upto_region 1 with fail;obtain⟨hB1,hB2,hbe⟩:=HW.out _ rfl;generalize (w.alloc _).alloc _=w1 at*;have ai:=iF hbe;have aj:=iF hB2;have au:=hB1.c0;have av:=hB1.c2;obtain⟨r0,r1,r2,r3,z0,ax,ay,z3⟩:=hB2.b4;have az:=(hbe.cell (p:=⟨b,off+A*4,none⟩) hb).trans c0;have aA:=(hbe.cell (p:=⟨b,off+A*4+1,none⟩) hb).trans c1;have aB:=(hbe.cell (p:=⟨b,off+A*4+2,none⟩) hb).trans c2;have aC:=(hbe.cell (p:=⟨b,off+A*4+3,none⟩) hb).trans c3;exact Tz
def qx(t:lL TL)(x:IL)(m:Nat):Bool:=
 if t.lab.kind=1 then wN t.lab x else if t.lab.kind=2 then xL t.lab x else if t.lab.kind=3 then xM t.lab x else if t.lab.kind=4 then yR t.lab x m else if t.lab.kind=5 then wO t.lab t.sub.length x m else false
mutual
def oK:lL IL->lL TL->Bool
 | .node a s,t=>qx t a s.length&&qb s t 0
def qb:List (lL IL)->lL TL->Nat->Bool
 |[],_,_=>true
 |x::A,t,i=>(match pE t i with|some y=>oK x y|none=>false)&&qb A t (i+1)
end
theorem D6(x:lL IL)(t:lL TL):∀(s:List (lL IL))(i:Nat),qb (s++[x]) t i=(qb s t i&&(match pE t (i+s.length)with|some y=>oK x y|none=>false))
 |[],i=>by simp[qb]
 |y::A,i=>by
  simp only[List.cons_append,qb];rw[D6 x t A (i+1),Bool.and_assoc,jm,show i+1+A.length=i+(A.length+1)by omega]
theorem MO{s:List (lL IL)}{k:Nat}(h:s[k]? =some x)(A:pE t k=some y):qb (s.take (k+1)) t 0=(qb (s.take k) t 0&&oK x y):=by
 have hlt:=(jH.1 h).1;have hl:(s.take k).length=k:=by rw[ky];omega
 have e:s.take (k+1)=s.take k++[x]:=by rw[List.take_add_one,h];rfl
 rw[e,D6,hl,Nat.zero_add,A]
theorem Ca:∀{s:List (lL IL)}{k i:Nat},s[k]? =some x->pE t (i+k)=some y->oK x y=false->qb s t i=false
 |[],k,i,h,_,_=>by simp at h
 |z::zs,0,i,h,A,C=>by
  simp at h;subst h;simp only[qb];rw[Nat.add_zero]at A;rw[A];dsimp only;rw[C];rfl
 |z::zs,k+1,i,h,A,C=>by
  simp only[qb];rw[Ca (k:=k) (i:=i+1) (by simpa using h) (by rw[<-A];congr 1;omega) C,Bool.and_false]
theorem Kb{a:IL}{m k:Nat}(E:mi t.lab t.sub=true)(h:qx t a m=true)(J:a.list=true\/m=0)(hk:k<m):∃y,pE t k=some y/\y∈t.sub:=by
 have A:∀i,i<t.sub.length->∃y,t.sub[i]? =some y/\y∈t.sub:=λi hi=>⟨_,iZ hi,List.getElem_mem hi⟩
 unfold mi nX at E;simp only[decide_eq_true_eq]at E;have hl:a.list=true:=J.resolve_right lK;unfold qx at h;unfold pE;split at h;.simp[wN,hl]at h
 .split at h
  .simp[xL,hl]at h
  .split at h
   .simp[xM,hl]at h
   .split at h
    .rename_i C
     rw[if_pos C];exact A 0 lK
    .rename_i C
     rw[if_neg C];split at h
     .simp only[wO,iY,decide_eq_true_eq]at h
      exact A k lK
     .cases h
structure FtE(bo bf bm:Nat)(w:iH):Prop where
 o:lN w bo #[.map (some bm)] QG
 m:uV w bm
 f:lN w bf #[.func (.func 197) #[] #[lq (some ⟨bo,0,none⟩),lq (some ⟨bf,0,none⟩)]] 108
theorem FtE.below{bo bf bm:Nat}(h:FtE bo bf bm w)(hb:iK w.heap.size w w'):FtE bo bf bm w':=⟨Below.blk hb h.o h.o.lt,h.m.below hb,Below.blk hb h.f h.f.lt⟩
theorem WQ(t:lL TL)(x:IL)(ot oi:Option kr)(m ct ci:Nat)(E:mi t.lab t.sub=true)(C:x.text.length<=jb)(J:m<=100000):
  (t.lab.kind=1/\∀W,iU iG 228 #[lC #[lg lH t.lab.kind,lg lH t.lab.size,lh ot t.sub.length ct,lg lH t.lab.tail],lC #[ll (txt x),lu x.list,lh oi m ci]] W λe w'=>e=lF (lu (qx t x m))/\iK W.heap.size W w')\/
  (t.lab.kind=2/\∀W,iU iG 229 #[lC #[lg lH t.lab.kind,lg lH t.lab.size,lh ot t.sub.length ct,lg lH t.lab.tail],lC #[ll (txt x),lu x.list,lh oi m ci]] W λe w'=>e=lF (lu (qx t x m))/\iK W.heap.size W w')\/
  (t.lab.kind=3/\∀W,iU iG 232 #[lC #[lg lH t.lab.kind,lg lH t.lab.size,lh ot t.sub.length ct,lg lH t.lab.tail],lC #[ll (txt x),lu x.list,lh oi m ci]] W λe w'=>e=lF (lu (qx t x m))/\iK W.heap.size W w')\/
  (t.lab.kind=4/\∀W,iU iG 233 #[lC #[lg lH t.lab.kind,lg lH t.lab.size,lh ot t.sub.length ct,lg lH t.lab.tail],lC #[ll (txt x),lu x.list,lh oi m ci]] W λe w'=>e=lF (lu (qx t x m))/\iK W.heap.size W w')\/
  (t.lab.kind=5/\∀W,iU iG 236 #[lC #[lg lH t.lab.kind,lg lH t.lab.size,lh ot t.sub.length ct,lg lH t.lab.tail],lC #[ll (txt x),lu x.list,lh oi m ci]] W λe w'=>e=lF (lu (qx t x m))/\iK W.heap.size W w'):=by
 unfold mi nX at E;simp only[decide_eq_true_eq]at E;have hk:t.lab.kind=1\/t.lab.kind=2\/t.lab.kind=3\/t.lab.kind=4\/t.lab.kind=5:=lK;have A:∀k,t.lab.kind=k->qx t x m=if k=1 then wN t.lab x else if k=2 then xL t.lab x else if k=3 then xM t.lab x else if k=4 then yR t.lab x m else if k=5 then wO t.lab t.sub.length x m else false:=λk h=>by unfold qx;rw[h]
 rcases hk with h|h|h|h|h
 .exact .inl ⟨h,λW=>by rw[A _ h];exact Ty t.lab x _ _ W C⟩
 .exact .inr (.inl ⟨h,λW=>by rw[A _ h];exact Tu t.lab x _ _ W C⟩)
 .exact .inr (.inr (.inl ⟨h,λW=>by rw[A _ h];exact Tv t.lab x _ _ W C⟩))
 .exact .inr (.inr (.inr (.inl ⟨h,λW=>by rw[A _ h];exact Tw t.lab x _ _ t.sub.length m _ _ W lK J lK⟩)))
 .exact .inr (.inr (.inr (.inr (⟨h,λW=>by rw[A _ h];exact Tx t.lab x _ _ t.sub.length m _ _ W lK J lK⟩))))
theorem WR(a b:iJ)(W:iH):kJ iG (Instr.field 239 (lC #[a,b]) 0) W=.ok a W:=rfl
theorem uH{α:Type}{p:α->List (lL α)->Bool}:∀{s:List (lL α)},lL.mR p s=true->∀{y:lL α},y∈s->y.all p=true
 |[],_,_,A=>by cases A
 |z::zs,h,y,A=>by
  simp only[lL.mR,iY]at h;rcases kD.1 A with rfl|A
  .exact h.1
  .exact uH h.2 A
theorem D7(h:p:=by
 have CF:=iF hcall;clear hcall;go_wp2_with fail;refine(CF.out _).mono ?_;rintro e w2 ⟨rfl,hb2⟩;have MP:iW (iK (g+2) w1 w2):=iF (hsz▸hb2);clear hb2;go_wp2_with fail;go_meet;exact⟨rfl,MP⟩):p:=h
theorem Kc(x:lL IL):∀(t:lL TL)(w:iH)(tv iv:iJ)(bo bf bm:Nat),mD w tv t.sub->oZ w iv x.sub->t.all mi=true->x.all mO=true->x.count<=100000->x.lab.text.length<=jb->FtE bo bf bm w->
  iU iG 197 #[lC #[lg lH t.lab.kind,lg lH t.lab.size,tv,lg lH t.lab.tail],lC #[ll (txt x.lab),lu x.lab.list,iv],lq (some ⟨bo,0,none⟩),lq (some ⟨bf,0,none⟩)] w
   λe w'=>e=lF (lu (oK x t))/\iK w.heap.size w w':=by
 induction x using lL.ind with
 |h a s bV=>
  intro t w tv iv bo bf bm ak au Y ag av bA bW;simp only[lL.nk,lL.oD]at*;obtain⟨ot,ct,rfl,_,_⟩:=ak.slice;obtain⟨oi,ci,rfl,_,_⟩:=lX.slice au;obtain⟨m,aW⟩:=lV s.length;have bX:m<=100000:=by
   have A:=lL.og s;simp only[lL.count]at av;omega
  have V:mi t.lab t.sub=true:=by
   obtain⟨ta,ts⟩:=t;simp only[lL.all,iY]at Y;exact Y.1
  have aX:t.sub.length<=16:=by
   have A:=V;unfold mi nX at A;simp only[decide_eq_true_eq]at A;omega
  have ax:∀y,y∈t.sub->y.all mi=true:=λy J=>by
   obtain⟨ta,ts⟩:=t;simp only[lL.all,iY]at Y;exact uH Y.2 J
  simp only[lL.all,iY]at ag;have ay:∀y,y∈s->y.all mO=true:=λy J=>uH ag.2 J
  have bB:a.list=true\/m=0:=by
   have A:=ag.1;unfold mO oW at A;split at A;.rename_i hl;exact .inl hl
   .simp only[decide_eq_true_eq]at A;exact .inr lK
  have hcall:=WQ t a ot oi m ct ci V bA bX;have bC:=iF ak;have bY:=iF au;have bK:iW (∀(k:Nat)(y:lL IL),s[k]? =some y->y.count<=100000):=iF λk y J=>by
   have:=lL.uC (jc J);simp only[lL.count]at av;omega
  have dX:=iF bV;have bD:iW (∀k,qx t a m=true->k<m->∃y,pE t k=some y/\y∈t.sub):=iF λk h hk=>Kb V h bB hk
  have bL:=iF ax;have bM:=iF ay;obtain⟨g,hg⟩:=lV w.heap.size;have az:=iF (wm (w:=w) t.lab.kind t.lab.size t.lab.tail (lh ot t.sub.length ct) (txt a) a.list (lh oi m ci));have bZ:=iF aW;obtain⟨R,bN⟩:=lV (oK (.node a s) t);rw[bN];have aY:iW (R=(qx t a m&&qb s t 0)):=iF (by rw[<-bN,<-aW];rfl);have cz:=iF bW;have aA:=iF hcall;have N:iW (∀W,uV W bm->∀k p,(kP lH k).wf=true->vo MM k=some p->(j5 QG (.map (some bm)) (lg lH k) false).run iG W=.ok (lC #[p.1,p.2]) W):=iF λW h k p A dY=>h.look k A p dY
  have FX:=WR;rw[aW];rw[hg]at az⊢;clear ak au Y ag av bA bW V ax ay bB hcall bN bV aW;obtain⟨cB,bE⟩:=lV (qx t a m);rw[bE]at aA aY bD;clear bE;obtain⟨Z,aB⟩:=lV t.sub.length;have cK:=iF aB;rw[aB]at bC az aA aX⊢;clear aB;obtain⟨aZ,aC⟩:=lV t.lab.kind;obtain⟨bg,aD⟩:=lV t.lab.size;obtain⟨kt,aF⟩:=lV t.lab.tail;have cO:=iF aC;have cZ:=iF aD;have df:=iF aF;rw[aC,aD,aF]at az aA⊢;clear aC aD aF;go_in;go_upto_region 1 with fail;obtain⟨aG,⟨t0,dh,dw,t3⟩,⟨dZ,ed,bO⟩,hsz⟩:=az.out _ rfl;generalize (w.alloc _).alloc _=w1 at*;have dx:=iF aG;have O:=iF (cz.out.below (hg.symm▸aG));have o0:=O.out.o.c0;have dz:iW (w1.cell? ⟨g,0,none⟩=some (lg lH aZ)/\w1.cell? ⟨g,1,none⟩=some (lg lH bg)/\w1.cell? ⟨g,2,none⟩=some (lh ot Z ct)/\w1.cell? ⟨g,3,none⟩=some (lg lH kt)/\w1.cell? ⟨g+1,2,none⟩=some (lh oi m ci)):=iF ⟨t0,dh,dw,t3,bO⟩;clear az aG;go_cut [17] (λbv ek=>bv=lu (!cB)/\iW (iK (g+2) w1 ek));case first=>
   rcases aA.out with⟨rfl,hcall⟩|⟨rfl,hcall⟩|⟨rfl,hcall⟩|⟨rfl,hcall⟩|⟨rfl,hcall⟩
   .have C:(j5 QG (.map (some bm)) (lg lH 1) false).run iG w1=.ok (lC #[kf1.1,kf1.2]) w1:=N.out w1 O.out.m 1 kf1 lM rfl
    simp only[kf1,MK]at C;exact D7
   .have C:(j5 QG (.map (some bm)) (lg lH 2) false).run iG w1=.ok (lC #[kf2.1,kf2.2]) w1:=N.out w1 O.out.m 2 kf2 lM rfl
    simp only[kf2,MK]at C;exact D7
   .have C:(j5 QG (.map (some bm)) (lg lH 3) false).run iG w1=.ok (lC #[kf3.1,kf3.2]) w1:=N.out w1 O.out.m 3 kf3 lM rfl
    simp only[kf3,MK]at C;exact D7
   .have C:(j5 QG (.map (some bm)) (lg lH 4) false).run iG w1=.ok (lC #[kf4.1,kf4.2]) w1:=N.out w1 O.out.m 4 kf4 lM rfl
    simp only[kf4,MK]at C;exact D7
   .have C:(j5 QG (.map (some bm)) (lg lH 5) false).run iG w1=.ok (lC #[kf5.1,kf5.2]) w1:=N.out w1 O.out.m 5 kf5 lM rfl
    simp only[kf5,MK]at C;exact D7
  clear t0 dh dw t3 dZ ed o0 aA N FX;case rest=>
  obtain⟨rfl,MP⟩:=hcut;have bF:iW (iK g w wc):=iF (dx.out.trans (MP.out.mono lK));have eD:=iF (O.out.below (hsz.symm▸MP.out));have dA:=(MP.out.cell (p:=⟨g+1,2,none⟩) (by show g+1<g+2;omega)).trans bO;clear bO;cases cB with
  |false=>
   have aH:iW (R=false):=iF (by rw[aY.out];rfl);go_wp2_with fail;go_returns;exact⟨by rw[aH.out];rfl,bF.out⟩
  |true=>
   have bG:iW (R=qb s t 0):=iF (by rw[aY.out];rfl);have bP:g+2<=wc.heap.size:=je (kX hsz.symm) MP.out.size;clear aY;go_wp2_with fail;clear dA;go_loopw [21] (λkv eu=>∃k:Nat,kv=lg lH (k:Int)/\k<=m/\iW (iK (g+2) wc eu)/\iW (qb (s.take k) t 0=true)) (λkv _=>m -(jA kv).toNat);case atStart=>exact⟨0,rfl,lK,iF (iL _ _),iF rfl⟩
   case round=>
    obtain⟨k,rfl,hk,ah,dB⟩:=hrel;have aI:iW (iK g w wr):=iF (bF.out.trans (ah.out.mono lK));by_cases c:k<m
    .obtain⟨y,J⟩:∃y,s[k]? =some y:=⟨_,iZ (by rw[bZ.out];exact c)⟩
     obtain⟨z,aa,bH⟩:=bD.out k trivial c;have aJ:iK w.heap.size w wr:=hg.symm▸aI.out;obtain⟨b,off,u,rfl,hlt,_,dC,dD,dE,bQ,aK⟩:=lX.at_ (Shape.lY.below bY.out aJ) J;obtain⟨ou,cu,rfl,_,_⟩:=lX.slice bQ;have aL:mD wr (lh ot Z ct) t.sub:=Shape.lY.below bC.out aJ;have aM:t.sub[if t.lab.kind=4 then 0 else k]? =some z:=by
      unfold pE at aa;by_cases dF:t.lab.kind=4;.rw[if_pos dF]at aa⊢;exact aa
      .rw[if_neg dF]at aa⊢;exact aa
     obtain⟨bt,ae,eF,dG,af,z0,dH,dI,z3,aN,bR⟩:=mD.at_ aL aM;obtain⟨bq,zc,rfl,_,_⟩:=aN.slice;subst dG;obtain⟨bS,aO⟩:=lV z.sub.length;obtain⟨bu,aP⟩:=lV y.sub.length;have aQ:(if t.lab.kind=4 then 0 else k)<Z:=by rw[<-cK.out];exact(jH.1 aM).1
     have dJ:iW (∀W,iK wr.heap.size wr W->iU iG 198 #[lC #[lg lH aZ,lg lH bg,lh (some ⟨bt,ae,none⟩) Z ct,lg lH kt],lg lH (k:Nat)] W λe w'=>e=lF (lC #[lg lH z.lab.kind,lg lH z.lab.size,lh bq bS zc,lg lH z.lab.tail])/\iK W.heap.size W w'):=iF λW U=>by
      have h:=Hq t k W (lh (some ⟨bt,ae,none⟩) Z ct) (Shape.lY.below aL U) z bq bS zc ⟨bt,ae,⟨Z,ct,rfl,aQ,lK⟩,jq af U.size,(U.cell (p:=⟨bt,_,none⟩) af).trans z0,(U.cell (p:=⟨bt,_,none⟩) af).trans dH,(U.cell (p:=⟨bt,_,none⟩) af).trans (aO▸dI),(U.cell (p:=⟨bt,_,none⟩) af).trans z3⟩;rw[cO.out,cZ.out,df.out]at h;exact h
     have ai:=cz.out.below aJ;have dK:iW (∀W,iK wr.heap.size wr W->iU iG 197 #[lC #[lg lH z.lab.kind,lg lH z.lab.size,lh bq bS zc,lg lH z.lab.tail],lC #[ll (txt y.lab),lu y.lab.list,lh ou bu cu],lq (some ⟨bo,0,none⟩),lq (some ⟨bf,0,none⟩)] W λe w'=>e=lF (lu (oK y z))/\iK W.heap.size W w'):=iF λW U=>by
      have h:=dX.out y (jc J) z W (lh bq z.sub.length zc) (lh ou y.sub.length cu) bo bf bm (Shape.lY.below aN U) (Shape.lY.below bQ U) (bL.out z bH) (bM.out y (jc J)) (bK.out k y J) aK (ai.below U);rw[aO,aP]at h;exact h
     rw[aP]at dE;have dL:iW (qb (s.take (k+1)) t 0=oK y z):=iF (by rw[MO J aa,dB.out];rfl);have dM:iW (oK y z=false->R=false):=iF λh=>by rw[bG.out];exact Ca J (by rw[Nat.zero_add];exact aa) h
     have bI:iW (wr.cell? ⟨bf,0,none⟩=some (.func (.func 197) #[] #[lq (some ⟨bo,0,none⟩),lq (some ⟨bf,0,none⟩)])/\bf<wr.heap.size):=iF ⟨ai.f.cell 0,ai.f.lt⟩;have dN:iW (g+2<=wr.heap.size/\wr.cell? ⟨g,0,none⟩=some (lg lH aZ)/\wr.cell? ⟨g,1,none⟩=some (lg lH bg)/\wr.cell? ⟨g,2,none⟩=some (lh (some ⟨bt,ae,none⟩) Z ct)/\wr.cell? ⟨g,3,none⟩=some (lg lH kt)):=iF (by
      have q:∀i,wr.cell? ⟨g,i,none⟩=w1.cell? ⟨g,i,none⟩:=λi=>(ah.out.cell (p:=⟨g,i,none⟩) (by show g<g+2;omega)).trans (MP.out.cell (p:=⟨g,i,none⟩) (by show g<g+2;omega))
      obtain⟨a0,bz,a2,a3,_⟩:=dz.out;exact⟨je bP ah.out.size,(q 0).trans a0,(q 1).trans bz,(q 2).trans a2,(q 3).trans a3⟩)
     generalize oK y z=eB at*;obtain⟨bT,aR⟩:=lV y.lab.list;obtain⟨bU,aS⟩:=lV (txt y.lab);obtain⟨eG,aT⟩:=lV z.lab.kind;obtain⟨zs,aU⟩:=lV z.lab.size;obtain⟨eH,aV⟩:=lV z.lab.tail;rw[aR,aS,aT,aU,aV]at dK;rw[aT,aU,aV]at dJ;rw[aR]at dD;rw[aS]at dC;have dO:iW (∀W,wr.alloc (lG #[ll bU,lu bT,lh ou bu cu] IT)=W->iK wr.heap.size wr W/\lN W wr.heap.size #[ll bU,lu bT,lh ou bu cu] IT):=iF λW h=>by subst h;exact⟨(iL _ _).alloc (iI _) _,lN.new _ _ _⟩
     clear aR aS aT aU aV aO aP z0 dH dI z3 aN bR aK bQ aL ai aa aM J aQ bH;go_upto_region 6 with fail;obtain⟨E,Q⟩:=dO.out _ rfl;generalize wr.alloc _=w5 at*;obtain⟨dP,a0,bz,a2,a3⟩:=dN.out;have aj:∀(x:oO w5) b i,b<wr.heap.size->x.at_.cell? ⟨b,i,none⟩=wr.cell? ⟨b,i,none⟩:=λx b i h=>(x.is.cell (p:=⟨b,i,none⟩) (jq h E.size)).trans (E.cell (p:=⟨b,i,none⟩) h)
     have dQ:∀x:oO w5,x.at_.cell? ⟨bf,0,none⟩=some (.func (.func 197) #[] #[lq (some ⟨bo,0,none⟩),lq (some ⟨bf,0,none⟩)]):=λx=>(aj x bf 0 bI.out.2).trans bI.out.1
     have b0:∀x:oO w5,x.at_.cell? ⟨g,0,none⟩=some (lg lH aZ):=λx=>(aj x g 0 lK).trans a0
     have b1:∀x:oO w5,x.at_.cell? ⟨g,1,none⟩=some (lg lH bg):=λx=>(aj x g 1 lK).trans bz
     have dR:∀x:oO w5,x.at_.cell? ⟨g,2,none⟩=some (lh (some ⟨bt,ae,none⟩) Z ct):=λx=>(aj x g 2 lK).trans a2
     have b3:∀x:oO w5,x.at_.cell? ⟨g,3,none⟩=some (lg lH kt):=λx=>(aj x g 3 lK).trans a3
     have dS:∀x:oO w5,x.at_.cell? ⟨wr.heap.size,0,none⟩=some (ll bU):=λx=>(x.is.cell (p:=⟨wr.heap.size,0,none⟩) Q.lt).trans (Q.cell 0)
     have e1:∀x:oO w5,x.at_.cell? ⟨wr.heap.size,1,none⟩=some (lu bT):=λx=>(x.is.cell (p:=⟨wr.heap.size,1,none⟩) Q.lt).trans (Q.cell 1)
     have e2:∀x:oO w5,x.at_.cell? ⟨wr.heap.size,2,none⟩=some (lh ou bu cu):=λx=>(x.is.cell (p:=⟨wr.heap.size,2,none⟩) Q.lt).trans (Q.cell 2)
     have dU:=iF (λx:oO w5=>dJ.out x.at_ (E.trans (x.is.mono E.size)));have dV:=iF (λx:oO w5=>dK.out x.at_ (E.trans (x.is.mono E.size)));have bJ:iW (∀x:oO w5,iK (g+2) wc x.at_/\iK g w x.at_):=iF λx=>
      have A:=E.trans (x.is.mono E.size)
      ⟨ah.out.trans (A.mono dP),aI.out.trans (A.mono lK)⟩
     clear aj E Q a0 bz a2 a3 dC dD dE hlt;refine mF lQ lQ ?_;repeat(go_big_quiet_step (first|(go_at_call 198;exact Calls.after (dU.out _))|(go_at_call 197;exact Calls.after (dV.out _))))
     refine kS ?_;intro x;cases eB with
     |true=>
      clear dQ b0 b1 dR b3 dS e1 e2;go_wp2_with fail;exact⟨⟨k+1,by go_num,lK,iF (bJ.out x).1,dL⟩,by simp[jA];omega⟩
     |false=>
      have aH:=iF (dM.out rfl);clear dQ b0 b1 dR b3 dS e1 e2;go_wp2_with fail;go_returns;exact⟨by rw[aH.out];rfl,(bJ.out x).2⟩
    .obtain rfl:k=m:=lK
     have dW:iW (R=true):=iF (by
      have A:=dB.out;rw[List.take_of_length_le (kX bZ.out)]at A;rw[bG.out,A])
     go_wp2_with fail;go_returns;exact⟨by rw[dW.out];rfl,aI.out⟩
end
end Go.Proofs.YtamfcjmhnndbdaaGreatDoor


