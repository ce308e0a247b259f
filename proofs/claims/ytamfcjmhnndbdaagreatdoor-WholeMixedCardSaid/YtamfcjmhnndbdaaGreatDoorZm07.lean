/- Part 7 of the proof. -/
import Derived.Test.YtamfcjmhnndbdaaGreatDoorZm00
import Derived.Test.YtamfcjmhnndbdaaGreatDoorZm02
import Derived.Test.YtamfcjmhnndbdaaGreatDoorZm05
import Derived.Test.YtamfcjmhnndbdaaGreatDoorZm06
import Derived.RegionTactic
import Derived.ChangeAlike
import Derived.Lib.Strings
open Go.Value renaming agg→nD,bool→nC,int→nk,pointer→nA,slice→ny,string→nz,tuple→nE
open Go.Obj renaming cells→nH
open Go.IntKind renaming i64→nI,u64→nJ
open Go.Ending renaming returned→nG,returned→lJ
open Go.Lib renaming hid→jH
open Go.Proofs.Tryz renaming prog→jI,underlying3→mg
open Go renaming World→jJ,Value→jP,Calls→jV,bodyPost_ret→jZ,maxLen→j3,TypeId→ko,results→kQ,Addr→lH
open Nat renaming le_refl→jK,le_trans→jY,lt_of_lt_of_le→kG,add_assoc→kR,le_succ→kV,lt_or_ge→kZ,pow_le_pow_right→lg,lt_succ_self→lK,two_pow_add_eq_or_of_lt→mO
open List renaming setIfInBounds_toArray→jL,getElem?_cons_succ→jM,getElem?_cons_zero→jN,getElem?_toArray→jO,set_cons_zero→jQ,set_cons_succ→jR,getElem?_eq_getElem→jW,length_cons→kF,mem_of_getElem?→kK,length_drop→kX,getElem?_eq_some_iff→lF,take_length→l9,length_take→mi,length_eq_zero_iff→mU,take_add_one→mY,take_append_drop→ng
open Go.RowKit renaming Below→jS,Hid→jX,intOf→kT
open Go.RowKit.Below renaming refl→jT
open And renaming intro→jU
open Bool renaming and_eq_true→j4
open Go.Instr renaming index→kS,lookup→lW
open Go.Lit renaming int→lI
open Go.Sem renaming run→l7
open Go.World renaming cell?→mI
open Array renaming getElem?_eq_none→mZ
open Option renaming none→V,some→U
open Go.Addr renaming mk→Z
namespace Go.Proofs.YtamfcjmhnndbdaaGreatDoor
set_option linter.unusedVariables false
set_option linter.unusedSimpArgs false
set_option maxRecDepth 100000
set_option maxHeartbeats 8000000
variable {w w':jJ}{v:jP}{p:Prop}{α:Type}{b i:Nat}{r:Option Nat}
section
open Go.RowKit
theorem uH{t:ko}{k z l:Int}{s:List (nM TL)}(h:oQ w v s):
  ∀W,w.alloc (nH #[nk nI k,nk nI z,v,nk nI l] t)=W->jS w.heap.size w W/\oQ W v s/\W.heap.size=w.heap.size+1/\
   W.cell? (Z w.heap.size 0 V)=U (nk nI k)/\W.cell? (Z w.heap.size 1 V)=U (nk nI z)/\W.cell? (Z w.heap.size 2 V)=U v/\W.cell? (Z w.heap.size 3 V)=U (nk nI l):=by
 rintro W rfl;have A:=(jT w.heap.size w).alloc (jK _) (nH #[nk nI k,nk nI z,v,nk nI l] t);have hB:=nP.new w #[nk nI k,nk nI z,v,nk nI l] t;exact⟨A,h.below A,nS,hB.cell 0,hB.cell 1,hB.cell 2,hB.cell 3⟩
theorem RF(h:p:=by
 have HF:jX (jS g w wr):=jH (H1.1.trans (hbe.mono nL));go_wp2_with fail;go_returns;exact⟨rfl,HF.out⟩):p:=h
theorem Ul(x:nM TL):∀(w:jJ)(v:jP),oQ w v x.sub->x.count<=1000->
  jV jI 79 #[nD #[nk nI x.lab.kind,nk nI x.lab.size,v,nk nI x.lab.tail]] w λe w'=>e=nG (nk nI (x.count:Nat))/\jS w.heap.size w w':=by
 induction x using nM.ind with
 |h a s ag=>
  intro w v E hc;simp only[nM.qx,nM.oZ,nM.count]at E hc⊢;obtain⟨oa,cap,rfl,Q,ah⟩:=oQ.slice E;obtain⟨g,hg⟩:=nV w.heap.size;have I:=jH (uH (k:=a.kind) (z:=a.size) (l:=a.tail) (t:=63) E);have J:=nM.sJ s;obtain⟨M,Y⟩:=nV s.length;have aa:=jH Y;have ay:=jH ag;obtain⟨C,ae⟩:=nV (nM.nZ s);have ai:=jH ae;rw[hg]at I⊢;rw[Y]at I J⊢;rw[ae]at hc J⊢;clear E Q ah ag Y ae;go_in;go_upto_region 1 with fail;generalize w.alloc (nH #[nk nI a.kind,nk nI a.size,ny oa M cap,nk nI a.tail] 63)=w1 at*;obtain⟨N,ht1,hsz,c0,c1,c2,c3⟩:=I.out _ rfl;have H1:=jH (jU N ht1);clear I N ht1 c0 c1 c3;go_wp2_with fail;go_loopw [3,4] (λaz iv aA=>∃k:Nat,iv=nk nI k/\k<=M/\az=nk nI ((1+nM.nZ (s.take k):Nat):Int)/\jX (jS (g+1) w1 aA)) (λ_ iv _=>M -(kT iv).toNat);case atStart=>exact⟨0,rfl,nL,by simp[nM.nZ],jH (jT _ _)⟩
  case round=>
   obtain⟨k,rfl,hk,rfl,hbe⟩:=hrel;have aC:wr.cell? (Z g 2 V)=U (ny oa M cap):=(hbe.cell (p:=(Z g 2 V)) (lK g)).trans c2;by_cases c:k<M
   .obtain⟨aD,y,af⟩:∃h:k<s.length,∃y,s[k]? =U y:=⟨by rw[aa.out];exact c,_,jW (by rw[aa.out];exact c)⟩
    obtain⟨b,off,u,rfl,hlt,aF,aG,y2,aH,aj,ak⟩:=oQ.at_ (Shape.nX.below H1.2 (hsz▸hbe.out)) af;have aB:=jH (ay y (kK af) wr u aj);have A:nM.nZ (s.take (k+1))=nM.nZ (s.take k)+y.count:=nM.vI af;have O:=nM.uG s (k+1);rw[ai.out]at O;have au:=jH A;rw[A]at O;generalize nM.nZ (s.take k)=aI at*;clear aj ak A;go_wp2_with fail;refine(aB nL).mono ?_;rintro e w2 ⟨rfl,av⟩;go_wp2_with fail;go_roundw;case rel=>exact⟨k+1,by go_num,nL,by rw[au.out];go_num,jH (hbe.trans (av.mono (by have:=hbe.size;omega)))⟩
    case measure=>simp[kT];omega
   .obtain rfl:k=M:=nL
    have ax:s.take k=s:=by rw[<-aa.out,l9]
    rw[ax,ai.out];exact RF
theorem nM.uI:∀ x:nM α,x.deep<=x.count:=by
 intro x;induction x using nM.ind with
 |h a s C=>
  simp only[nM.deep,nM.count];have:∀t:List (nM α),(∀x,x∈t->x.deep<=x.count)->nM.o9 t<=nM.nZ t:=by
   intro t;induction t with
   |nil=>intro _;simp[nM.o9]
   |cons y ys A=>
    intro h;have h1:=h y (List.mem_cons_self ..);have h2:=A λz E=>h z (List.mem_cons_of_mem _ E)
    simp only[nM.o9,nM.nZ];omega
  have:=this s C;omega
theorem nM.WW(s:List (nM α)):nM.o9 s<=nM.nZ s:=by
 have:=nM.uI (nM.node (α:=Unit) () []);induction s with
 |nil=>simp[nM.o9]
 |cons y ys A=>
  have:=nM.uI y;simp only[nM.o9,nM.nZ];omega
theorem nM.vC(s:List (nM α))(i:Nat):nM.o9 (s.take i)<=nM.o9 s:=by
 conv=>rhs;rw[<-ng i s,nM.vZ]
 exact Nat.le_max_left _ _
theorem WX(x:nM TL):∀(w:jJ)(v:jP),oQ w v x.sub->x.count<=1000->
  jV jI 80 #[nD #[nk nI x.lab.kind,nk nI x.lab.size,v,nk nI x.lab.tail]] w λe w'=>e=nG (nk nI (x.deep:Nat))/\jS w.heap.size w w':=by
 induction x using nM.ind with
 |h a s av=>
  intro w v I hc;simp only[nM.qx,nM.oZ,nM.count,nM.deep]at I hc⊢;obtain⟨oa,cap,rfl,af,ax⟩:=oQ.slice I;obtain⟨g,hg⟩:=nV w.heap.size;have J:=jH (uH (k:=a.kind) (z:=a.size) (l:=a.tail) (t:=63) I);have O:=nM.sJ s;obtain⟨M,ag⟩:=nV s.length;have ah:=jH ag;have aG:=jH av;obtain⟨C,ai⟩:=nV (nM.nZ s);have aH:=jH ai;obtain⟨D,aj⟩:=nV (nM.o9 s);have ay:=jH aj;have Q:=nM.WW s;rw[hg]at J⊢;rw[ag]at J O⊢;rw[ai]at hc O Q;rw[aj]at Q⊢;clear I af ax av ag ai aj;go_in;go_upto_region 1 with fail;generalize w.alloc (nH #[nk nI a.kind,nk nI a.size,ny oa M cap,nk nI a.tail] 63)=w1 at*;obtain⟨Y,ht1,hsz,c0,c1,c2,c3⟩:=J.out _ rfl;have H1:=jH (jU Y ht1);clear J Y ht1 c0 c1 c3;go_wp2_with fail;go_loopw [3,4,5] (λaI iv aN aJ=>∃k:Nat,iv=nk nI k/\k<=M/\aI=nk nI (nM.o9 (s.take k):Nat)/\jX (jS (g+1) w1 aJ)) (λ_ iv _ _=>M -(kT iv).toNat);case atStart=>exact⟨0,rfl,nL,by simp[nM.o9],jH (jT _ _)⟩
  case round=>
   obtain⟨k,rfl,hk,rfl,hbe⟩:=hrel;have aL:wr.cell? (Z g 2 V)=U (ny oa M cap):=(hbe.cell (p:=(Z g 2 V)) (lK g)).trans c2;by_cases c:k<M
   .obtain⟨aM,y,N⟩:∃h:k<s.length,∃y,s[k]? =U y:=⟨by rw[ah.out];exact c,_,jW (by rw[ah.out];exact c)⟩
    obtain⟨b,off,u,rfl,hlt,aO,aP,y2,aQ,az,aA⟩:=oQ.at_ (Shape.nX.below H1.2 (hsz▸hbe.out)) N;have aB:=nM.BO (kK N);rw[aH.out]at aB;have aC:=jH (aG y (kK N) wr u az nL);have E:nM.o9 (s.take (k+1))=max (nM.o9 (s.take k)) y.deep:=nM.yK N;have aD:=nM.vC s (k+1);rw[ay.out,E]at aD;have aa:=jH E;generalize nM.o9 (s.take k)=ak at*;generalize y.deep=au at*;have ae:jX (∀w2,jS wr.heap.size wr w2->jS (g+1) w1 w2):=jH λw2 A=>hbe.trans (A.mono (by have:=hbe.size;omega))
    clear az aA E;by_cases cd:ak<au
    .have aK:decide ((ak:Int)<au)=true:=nT
     go_wp2_with fail;refine(aC).mono ?_;rintro e w2 ⟨rfl,A⟩;go_wp2_with fail;go_roundw;case rel=>exact⟨k+1,by go_num,nL,by rw[aa.out,Nat.max_eq_right nL],jH (ae _ A)⟩
     case measure=>simp[kT];omega
    .have aK:decide ((ak:Int)<au)=false:=nT
     go_wp2_with fail;refine(aC).mono ?_;rintro e w2 ⟨rfl,A⟩;go_wp2_with fail;go_roundw;case rel=>exact⟨k+1,by go_num,nL,by rw[aa.out,Nat.max_eq_left nL],jH (ae _ A)⟩
     case measure=>simp[kT];omega
   .obtain rfl:k=M:=nL
    have aF:s.take k=s:=by rw[<-ah.out,l9]
    rw[aF,ay.out];exact RF
theorem ET(z c:Int):((z==c)=true/\jX (z=c))\/((z==c)=false/\jX (z≠c)):=by
 exact Kv
theorem AX(a b:Int):(decide (a<=b)=true/\jX (a<=b))\/(decide (a<=b)=false/\jX (b<a)):=by
 by_cases h:a<=b;.exact .inl ⟨by simp[h],h⟩
 .exact .inr ⟨by simp[h],by unfold jX;omega⟩
theorem WY(k:Int):k=1\/k=2\/k=3\/k=4\/k=5\/((k==1)=false/\(k==2)=false/\(k==3)=false/\(k==4)=false/\(k==5)=false/\jX (k≠1/\k≠2/\k≠3/\k≠4/\k≠5)):=by
 by_cases h1:k=1;.exact .inl h1
 by_cases h2:k=2;.exact .inr (.inl h2)
 by_cases A:k=3;.exact .inr (.inr (.inl A))
 by_cases C:k=4;.exact .inr (.inr (.inr (.inl C)))
 by_cases E:k=5;.exact .inr (.inr (.inr (.inr (.inl E))))
 .exact .inr (.inr (.inr (.inr (.inr ⟨by simp[h1],by simp[h2],by simp[A],by simp[C],by simp[E],h1,h2,A,C,E⟩))))
theorem a3K(z:Int):z=1\/z=2\/z=4\/z=8\/((z==1)=false/\(z==2)=false/\(z==4)=false/\(z==8)=false/\jX (z≠1/\z≠2/\z≠4/\z≠8)):=by
 by_cases h1:z=1;.exact .inl h1
 by_cases h2:z=2;.exact .inr (.inl h2)
 by_cases A:z=4;.exact .inr (.inr (.inl A))
 by_cases C:z=8;.exact .inr (.inr (.inr (.inl C)))
 .exact .inr (.inr (.inr (.inr ⟨by simp[h1],by simp[h2],by simp[A],by simp[C],h1,h2,A,C⟩)))
theorem Um(x:nM TL):∀(w:jJ)(v:jP),oQ w v x.sub->x.count<=1000->
  jV jI 81 #[nD #[nk nI x.lab.kind,nk nI x.lab.size,v,nk nI x.lab.tail]] w λe w'=>e=nG (nC (x.all oK))/\jS w.heap.size w w':=by
 induction x using nM.ind with
 |h a s aM=>
  intro w v ah hc;obtain⟨kind,size,tail⟩:=a;simp only[nM.qx,nM.oZ,nM.count]at ah hc⊢;obtain⟨oa,cap,rfl,aC,aN⟩:=oQ.slice ah;obtain⟨g,hg⟩:=nV w.heap.size;have ai:=jH (uH (k:=kind) (z:=size) (l:=tail) (t:=63) ah);have ax:=nM.sJ s;have aO:jX ((nM.node ⟨kind,size,tail⟩ s).all oK=(qA ⟨kind,size,tail⟩ s.length&&nM.o7 oK s)):=jH rfl;obtain⟨M,aD⟩:=nV s.length;have aF:=jH aD;have bq:=jH aM;obtain⟨C,aG⟩:=nV (nM.nZ s);have bu:=jH aG;obtain⟨A,aH⟩:=nV (nM.o7 oK s);have aP:=jH aH;rw[aO.out];clear aO;rw[hg]at ai⊢;rw[aD]at ai ax⊢;rw[aG]at hc ax;rw[aH];clear ah aC aN aM aD aG aH;go_in;go_upto_region 1 with fail;generalize w.alloc (nH #[nk nI kind,nk nI size,ny oa M cap,nk nI tail] 63)=w1 at*;obtain⟨ay,ht1,hsz,c0,c1,c2,c3⟩:=ai.out _ rfl;have aQ:=jH (jU ay ht1);clear ai ay ht1;go_upto_block 0 with fail;go_cut [3] (λsv bz=>sv=nC (qA ⟨kind,size,tail⟩ M)/\bz=w1);case first=>
   have E:=ET (M:Int) 0;have e1:=ET (M:Int) 1;have t0:=ET tail 0;have Y:=AX (M:Int) 16;have aI:=AX 0 tail;have tl:=AX tail (M:Int);rcases WY kind with rfl|rfl|rfl|rfl|rfl|⟨bG,bH,bI,bJ,bK,bA⟩
   .rcases a3K size with rfl|rfl|rfl|rfl|⟨bL,bM,z3,z4,bB⟩<;>rcases E with⟨E,I⟩|⟨E,I⟩<;>rcases t0 with⟨t0,J⟩|⟨t0,J⟩
    all_goals (go_wp2_with fail;go_meet;refine⟨congrArg Value.bool ?_,rfl⟩;have aj:=I.out;have ak:=J.out;(try (have au:=bB.out));unfold qA;symm;first|(apply decide_eq_true;dsimp only;omega)|(apply decide_eq_false;dsimp only;omega))
   .rcases AX 1 size with⟨aa,N⟩|⟨aa,N⟩<;>rcases AX size 65536 with⟨ae,O⟩|⟨ae,O⟩<;>rcases E with⟨E,I⟩|⟨E,I⟩<;>rcases t0 with⟨t0,J⟩|⟨t0,J⟩
    all_goals (go_wp2_with fail;go_meet;refine⟨congrArg Value.bool ?_,rfl⟩;have aj:=I.out;have ak:=J.out;have au:=N.out;have aJ:=O.out;unfold qA;symm;first|(apply decide_eq_true;dsimp only;omega)|(apply decide_eq_false;dsimp only;omega))
   .rcases AX 0 size with⟨aa,N⟩|⟨aa,N⟩<;>rcases AX size 65536 with⟨ae,O⟩|⟨ae,O⟩<;>rcases E with⟨E,I⟩|⟨E,I⟩<;>rcases t0 with⟨t0,J⟩|⟨t0,J⟩
    all_goals (go_wp2_with fail;go_meet;refine⟨congrArg Value.bool ?_,rfl⟩;have aj:=I.out;have ak:=J.out;have au:=N.out;have aJ:=O.out;unfold qA;symm;first|(apply decide_eq_true;dsimp only;omega)|(apply decide_eq_false;dsimp only;omega))
   .rcases AX 0 size with⟨aa,N⟩|⟨aa,N⟩<;>rcases AX size 1024 with⟨ae,O⟩|⟨ae,O⟩<;>rcases e1 with⟨E,I⟩|⟨E,I⟩<;>rcases t0 with⟨t0,J⟩|⟨t0,J⟩
    all_goals (go_wp2_with fail;go_meet;refine⟨congrArg Value.bool ?_,rfl⟩;have aj:=I.out;have ak:=J.out;have au:=N.out;have aJ:=O.out;unfold qA;symm;first|(apply decide_eq_true;dsimp only;omega)|(apply decide_eq_false;dsimp only;omega))
   .rcases ET size 0 with⟨z0,aR⟩|⟨z0,aR⟩<;>rcases Y with⟨Y,az⟩|⟨Y,az⟩<;>rcases aI with⟨aI,aS⟩|⟨aI,aS⟩<;>rcases tl with⟨tl,aA⟩|⟨tl,aA⟩
    all_goals (go_wp2_with fail;go_meet;refine⟨congrArg Value.bool ?_,rfl⟩;have aj:=aR.out;have ak:=az.out;have au:=aS.out;have aJ:=aA.out;unfold qA;symm;first|(apply decide_eq_true;dsimp only;omega)|(apply decide_eq_false;dsimp only;omega))
   .go_wp2_with fail
    go_meet;exact⟨congrArg Value.bool (by have:=bA.out;simp[qA];omega),rfl⟩
  case rest=>
   obtain⟨rfl,rfl⟩:=hcut;clear c0 c1 c3;obtain⟨R,aK⟩:∃R,qA ⟨kind,size,tail⟩ M=R:=⟨_,rfl⟩;have aB:=jH aK;rw[aK];clear aK;go_wp2_with fail;go_loopw [3,5] (λbv iv bC=>∃(k:Nat) (b:Bool),iv=nk nI k/\k<=M/\bv=nC b/\jX (b=(R&&nM.o7 oK (s.take k)))/\jX (jS (g+1) wc bC)) (λ_ iv _=>M -(kT iv).toNat);case atStart=>exact⟨0,R,rfl,nL,rfl,by simp[jX,nM.o7],jH (jT _ _)⟩
   case round=>
    obtain⟨k,b,rfl,hk,rfl,aT,Q⟩:=hrel;have bE:wr.cell? (Z g 2 V)=U (ny oa M cap):=(Q.cell (p:=(Z g 2 V)) (lK g)).trans c2;have aU:jX (jS g w wr):=jH (aQ.1.trans (Q.mono nL));have af:jX (k=M\/b=false->b=(R&&A)):=jH λh=>by
     have h1:=aT.out;rcases h with h|h
     .have aV:s.take k=s:=by rw[h,<-aF.out,l9]
      rw[aV,aP.out]at h1;exact h1
     .have h2:nM.o7 oK s=(nM.o7 oK (s.take k)&&nM.o7 oK (s.drop k)):=by
       rw[<-nM.zK,ng]
      rw[<-aP.out,h2,h];rw[h]at h1;revert h1;cases R<;>cases nM.o7 oK (s.take k)<;>simp
    by_cases c:k<M
    .cases b with
     |true=>
      obtain⟨bF,y,av⟩:∃h:k<s.length,∃y,s[k]? =U y:=⟨by rw[aF.out];exact c,_,jW (by rw[aF.out];exact c)⟩;obtain⟨bN,off,u,rfl,hlt,bO,bP,y2,bQ,aW,aX⟩:=oQ.at_ (Shape.nX.below aQ.2 (hsz▸Q.out)) av;have aY:=nM.BO (kK av);rw[bu.out]at aY;have bD:=jH (bq y (kK av) wr u aW nL);have aZ:jX (y.all oK=(R&&nM.o7 oK (s.take (k+1)))):=by
       have h1:=aT.out;unfold jX;rw[nM.wD av,<-Bool.and_assoc,<-h1];rfl
      have bg:jX (∀w2,jS wr.heap.size wr w2->jS (g+1) wc w2):=jH λw2 ag=>Q.trans (ag.mono (by have:=Q.size;omega))
      clear aW aX;go_wp2_with fail;refine(bD).mono ?_;rintro e w2 ⟨rfl,ag⟩;go_wp2_with fail;go_roundw;case rel=>exact⟨k+1,_,by go_num,nL,rfl,aZ,jH (bg _ ag)⟩
      case measure=>simp[kT];omega
     |false=>
      have aL:=jH (af (.inr rfl));go_wp2_with fail;go_returns;rw[aB.out,<-aL.out];exact⟨rfl,aU.out⟩
    .obtain rfl:k=M:=nL
     have aL:=jH (af (.inl rfl));go_wp2_with fail;go_returns;rw[aB.out,<-aL.out];exact⟨rfl,aU.out⟩
theorem a0R(x:nM TL):p9 x=(decide (x.count<=64)&&decide (x.deep<=8)&&x.all oK):=rfl
theorem RG(x:nM TL)(w:jJ)(v:jP)(ae:oQ w v x.sub)(hc:x.count<=1000):
  jV jI 47 #[nD #[nk nI x.lab.kind,nk nI x.lab.size,v,nk nI x.lab.tail]] w λe w'=>e=nG (nC (p9 x))/\jS w.heap.size w w':=by
 have af:=jH (uH (k:=x.lab.kind) (z:=x.lab.size) (l:=x.lab.tail) (t:=63) ae);obtain⟨oa,cap,rfl,ag,av⟩:=oQ.slice ae;obtain⟨g,hg⟩:=nV w.heap.size;have ax:=jH (λ(W:jJ) (h:oQ W (ny oa x.sub.length cap) x.sub)=>Ul x W _ h hc);have aD:=jH (λ(W:jJ) (h:oQ W (ny oa x.sub.length cap) x.sub)=>WX x W _ h hc);have aF:=jH (λ(W:jJ) (h:oQ W (ny oa x.sub.length cap) x.sub)=>Um x W _ h hc);have ah:=jH (a0R x);have hd:=nM.uI x;rw[hg]at af⊢;clear ae ag av;generalize p9 x=R at*;generalize x.count=ai at*;generalize x.deep=dn at*;generalize x.all oK=aN at*;generalize x.sub.length=M at*;have O:=AX (ai:Int) 64;have d8:=AX (dn:Int) 8;go_in;go_upto_region 1 with fail;generalize w.alloc (nH #[nk nI x.lab.kind,nk nI x.lab.size,ny oa M cap,nk nI x.lab.tail] 63)=w1 at*;obtain⟨Y,ht1,hsz,c0,c1,c2,c3⟩:=af.out _ rfl;have aj:=jH ht1;have aG:=jH Y;have ay:=jH hsz;clear af ht1 Y hsz;have N:∀w2,jS w1.heap.size w1 w2->jX (jS g w w2/\oQ w2 (ny oa M cap) x.sub):=λw2 h=>⟨aG.trans (h.mono (by have:=ay.out;omega)),Shape.nX.below aj h⟩
 have N:=jH N;have hlt:g<w1.heap.size:=by have:=ay.out;omega
 rcases O with⟨O,Q⟩|⟨O,Q⟩
 .rcases d8 with⟨d8,ak⟩|⟨d8,ak⟩
  all_goals
   go_wp2_with fail;refine(ax _ aj).mono ?_;rintro e w2 ⟨rfl,A⟩;have f2:=N.out _ A;have E:=jH A;have az:=(A.cell (p:=(Z g 0 V)) hlt).trans c0;have aA:=(A.cell (p:=(Z g 1 V)) hlt).trans c1;have aB:=(A.cell (p:=(Z g 2 V)) hlt).trans c2;have aC:=(A.cell (p:=(Z g 3 V)) hlt).trans c3;have I:g<w2.heap.size:=by have:=A.size;omega
   clear A;go_wp2_with fail;refine(aD _ f2.2).mono ?_;rintro e w3 ⟨rfl,C⟩
  .have J:=jH (E.trans (C.mono E.size))
   have f3:=N.out _ J.out;have aH:=(C.cell (p:=(Z g 0 V)) I).trans az;have aI:=(C.cell (p:=(Z g 1 V)) I).trans aA;have aJ:=(C.cell (p:=(Z g 2 V)) I).trans aB;have aK:=(C.cell (p:=(Z g 3 V)) I).trans aC;clear C;go_wp2_with fail;refine(aF _ f3.2).mono ?_;rintro e w4 ⟨rfl,aa⟩;have au:=jH (f3.1.trans (aa.mono (by have:=f3.1.size;omega)));clear aa;go_wp2_with fail;go_returns;refine⟨?_,au.out⟩;have aL:=Q.out;have aM:=ak.out;rw[ah.out,decide_eq_true (by omega:ai<=64),decide_eq_true (by omega:dn<=8)];rfl
  .have J:=jH (E.trans (C.mono E.size))
   have f3:=N.out _ J.out;clear C;go_wp2_with fail;go_returns;refine⟨?_,f3.1⟩;have aM:=ak.out;rw[ah.out,decide_eq_false (by omega:¬dn<=8),Bool.and_false];rfl
 .go_wp2_with fail
  refine(ax _ aj).mono ?_;rintro e w2 ⟨rfl,A⟩;have f2:=N.out _ A;clear A;go_wp2_with fail;go_returns;refine⟨?_,f2.1⟩;have aL:=Q.out;rw[ah.out,decide_eq_false (by omega:¬ai<=64)];rfl
theorem a6f(z c:Int):((z !=c)=false/\jX (z=c))\/((z !=c)=true/\jX (z≠c)):=by
 exact Kv
def RH:Nat->Nat:=λi=>[1,2,4,8].getD i 0
def pW(w:jJ):Prop:=∀i,i<4->w.cell? (Z 1 i V)=U (nk nI (RH i:Nat))
theorem pW.lt(h:pW w):1<w.heap.size:=by
 rcases kZ 1 w.heap.size with A|A
 .exact A
 .have:=h 0 nO
  simp[mI,mZ A]at this
theorem pW.below{B:Nat}(h:pW w)(hb:jS B w w')(hB:1<B):pW w':=λi hi=>(hb.cell (p:=(Z _ i V)) hB).trans (h i hi)
theorem pW.upd(h:pW w)(hb:pE b w w')(hB:1≠b):pW w':=λi hi=>by
 rw[World.cell?_of_block (w:=w) (hb.block _ h.lt (by simpa using hB))];exact h i hi
theorem a0S(W:jJ):l7 jI (kS 312 (nD #[nk nI 1,nk nI 2,nk nI 4,nk nI 8]) (nk nI 0)) W=.ok (nk nI 1) W:=rfl
theorem a0T(W:jJ):l7 jI (kS 312 (nD #[nk nI 1,nk nI 2,nk nI 4,nk nI 8]) (nk nI 1)) W=.ok (nk nI 2) W:=rfl
theorem a0U(W:jJ):l7 jI (kS 312 (nD #[nk nI 1,nk nI 2,nk nI 4,nk nI 8]) (nk nI 2)) W=.ok (nk nI 4) W:=rfl
theorem a0V(W:jJ):l7 jI (kS 312 (nD #[nk nI 1,nk nI 2,nk nI 4,nk nI 8]) (nk nI 3)) W=.ok (nk nI 8) W:=rfl
theorem Ky(h:p:=by
 go_wp2_with fail;go_returns;refine⟨?_,rfl⟩;rw[decide_eq_true (by have:=Z0.out;omega)];rfl):p:=h
theorem PI(z:Int)(w:jJ)(A:pW w):
  jV jI 267 #[nk nI z] w λe w'=>e=nG (nC (decide (z=1\/z=2\/z=4\/z=8)))/\w=w':=by
 have t0:=A 0 nO;have I:=A 1 nO;have J:=A 2 nO;have t3:=A 3 nO;simp only[RH]at t0 I J t3;clear A;go_in;go_wp2_with fail;go_loopw [4,6] (λ_ iv N=>∃k:Nat,iv=nk nI k/\k<=4/\jX (∀i,i<k->z≠(RH i:Nat))/\N=w) (λ_ iv _=>4 -(kT iv).toNat);case atStart=>exact⟨0,rfl,nL,jH (λi hi=>by omega),rfl⟩
 case round=>
  obtain⟨k,rfl,hk,C,rfl⟩:=hrel;have E:k=0\/k=1\/k=2\/k=3\/k=4:=nL;rcases E with rfl|rfl|rfl|rfl|rfl
  case inr.inr.inr.inr=>
   go_wp2_with fail;go_returns;refine⟨?_,rfl⟩;have q:=C.out;have O:=q 0 nO;have Q:=q 1 nO;have Y:=q 2 nO;have aa:=q 3 nO;simp[RH]at O Q Y aa;rw[decide_eq_false nL];rfl
  .have hix:=a0S wr
   rcases ET z 1 with⟨z0,Z0⟩|⟨z0,Z0⟩
   .exact Ky
   .go_wp2_with fail
    go_roundw;case rel=>exact⟨1,rfl,nL,jH (λi hi=>by
     rcases kZ i 0 with h|h
     .exact C i h
     .obtain rfl:i=0:=nL
      exact Z0),by first|trivial|rfl⟩
    case measure=>simp[kT]
  .have hix:=a0T wr
   rcases ET z 2 with⟨z0,Z0⟩|⟨z0,Z0⟩
   .exact Ky
   .go_wp2_with fail
    go_roundw;case rel=>exact⟨2,rfl,nL,jH (λi hi=>by
     rcases kZ i 1 with h|h
     .exact C i h
     .obtain rfl:i=1:=nL
      exact Z0),by first|trivial|rfl⟩
    case measure=>simp[kT]
  .have hix:=a0U wr
   rcases ET z 4 with⟨z0,Z0⟩|⟨z0,Z0⟩
   .exact Ky
   .go_wp2_with fail
    go_roundw;case rel=>exact⟨3,rfl,nL,jH (λi hi=>by
     rcases kZ i 2 with h|h
     .exact C i h
     .obtain rfl:i=2:=nL
      exact Z0),by first|trivial|rfl⟩
    case measure=>simp[kT]
  .have hix:=a0V wr
   rcases ET z 8 with⟨z0,Z0⟩|⟨z0,Z0⟩
   .exact Ky
   .go_wp2_with fail
    go_roundw;case rel=>exact⟨4,rfl,nL,jH (λi hi=>by
     rcases kZ i 3 with h|h
     .exact C i h
     .obtain rfl:i=3:=nL
      exact Z0),by first|trivial|rfl⟩
    case measure=>simp[kT]
theorem PK(lo hi z:Int)(g:Nat)(w:jJ)(c1:w.cell? (Z g 1 V)=U (nk nI z)):
  jV jI 266 #[nk nI lo,nk nI hi,nA (U (Z g 0 V))] w λe w'=>e=nG (nC (decide (lo<=z/\z<=hi)))/\w=w':=by
 have a1:=AX lo z;have a2:=AX z hi;rcases a1 with⟨a1,A⟩|⟨a1,A⟩<;>rcases a2 with⟨a2,C⟩|⟨a2,C⟩
 all_goals
  go_in;go_wp2_with fail;go_returns;refine⟨?_,rfl⟩;have E:=A.out;have I:=C.out
  first
   |(rw[decide_eq_true (show lo<=z/\z<=hi by omega)];rfl)
   |(rw[decide_eq_false (show¬(lo<=z/\z<=hi)by omega)];rfl)
theorem RI(h:p:=by
 unfold qA;symm;first|(apply decide_eq_true;dsimp only;omega)|(apply decide_eq_false;dsimp only;omega)):p:=h
theorem PL(h:p:=by
 rintro e w2 ⟨rfl,rfl⟩;go_wp2_with fail;go_returns;refine⟨congrArg (λb=>lJ (nC b)) ?_,H1.out⟩;have q1:=HPT.out (by trivial);unfold qA;dsimp only;rw[Bool.eq_iff_iff];simp only[j4,Bool.or_eq_true,decide_eq_true_eq,false_and,true_and,false_or,or_false];omega):p:=h
theorem PM(h:p:=by
 go_wp2_with fail;go_returns;refine⟨congrArg (λb=>lJ (nC b)) ?_,H1.out⟩;have q1:=HPF.out (by trivial);unfold qA;symm;first|(apply decide_eq_true;dsimp only;omega)|(apply decide_eq_false;dsimp only;omega)):p:=h
theorem Un(a:TL)(oa:Option lH)(M cap:Nat)(w:jJ)(ag:pW w):
  jV jI 240 #[nD #[nk nI a.kind,nk nI a.size,ny oa M cap,nk nI a.tail]] w λe w'=>e=nG (nC (qA a M))/\jS w.heap.size w w':=by
 obtain⟨kind,size,tail⟩:=a;obtain⟨g,hg⟩:=nV w.heap.size;have aj:jX (∀W,w.alloc (nH #[nk nI kind,nk nI size,ny oa M cap,nk nI tail] 63)=W->jS g w W/\pW W/\nP W g #[nk nI kind,nk nI size,ny oa M cap,nk nI tail] 63):=jH λW h=>by
  subst h;have Y:=(jT w.heap.size w).alloc (jK _) (nH #[nk nI kind,nk nI size,ny oa M cap,nk nI tail] 63);exact⟨hg▸Y,ag.below Y ag.lt,hg▸nP.new w _ _⟩
 rw[hg];clear ag;simp only;go_in;go_upto_region 1 with fail;generalize w.alloc (nH #[nk nI kind,nk nI size,ny oa M cap,nk nI tail] 63)=w1 at*;obtain⟨aa,ht1,hB⟩:=aj.out _ rfl;have c0:w1.cell? (Z g 0 V)=U (nk nI kind):=hB.cell 0;have c1:w1.cell? (Z g 1 V)=U (nk nI size):=hB.cell 1;have c2:w1.cell? (Z g 2 V)=U (ny oa M cap):=hB.cell 2;have c3:w1.cell? (Z g 3 V)=U (nk nI tail):=hB.cell 3;have H1:=jH aa;have az:=jH ht1;have av:=jH (PI size w1 ht1);clear aj aa ht1 hB;have O:=ET (M:Int) 0;have e1:=ET (M:Int) 1;have t0:=ET tail 0;have C:=AX (M:Int) 16;have Q:=AX 0 tail;have tl:=AX tail (M:Int);have I:=jH (λlo hi=>PK lo hi size g w1 c1);go_upto_region 2 with fail;go_cut [4] (λpv ax=>pv=nC (decide ((M:Int)=0/\tail=0))/\ax=w1);case first=>
  clear C Q tl e1;rcases O with⟨O,ak⟩|⟨O,ak⟩<;>rcases t0 with⟨t0,E⟩|⟨t0,E⟩
  all_goals
   go_wp2_with fail;go_meet;refine⟨congrArg Value.bool ?_,rfl⟩;have q1:=ak.out;have ah:=E.out
   first
    |(rw[decide_eq_true (show(M:Int)=0/\tail=0 by omega)])
    |(rw[decide_eq_false (show¬((M:Int)=0/\tail=0)by omega)])
 case rest=>
 obtain⟨rfl,rfl⟩:=hcut;clear O;obtain⟨p,hp⟩:=nV (decide ((M:Int)=0/\tail=0));have HPT:jX (p=true->(M:Int)=0/\tail=0):=jH λh=>by rw[h]at hp;exact of_decide_eq_true hp
 have HPF:jX (p=false->¬((M:Int)=0/\tail=0)):=jH λh=>by rw[h]at hp;exact of_decide_eq_false hp
 rw[hp];clear hp;rcases WY kind with rfl|rfl|rfl|rfl|rfl|⟨aA,aB,aC,aD,aF,ay⟩
 .cases p
  .exact PM
  .go_wp2_with fail
   refine(av).mono ?_;exact PL
 .have A:=jH (I 1 65536)
  cases p;.exact PM
  .go_wp2_with fail
   refine(A).mono ?_;exact PL
 .have A:=jH (I 0 65536)
  cases p;.exact PM
  .go_wp2_with fail
   refine(A).mono ?_;exact PL
 .have A:=jH (I 0 1024)
  rcases e1 with⟨e1,ai⟩|⟨e1,ai⟩<;>rcases t0 with⟨t0,E⟩|⟨t0,E⟩
  .go_wp2_with fail
   refine(A).mono ?_;rintro e w2 ⟨rfl,rfl⟩;go_wp2_with fail;go_returns;refine⟨congrArg (λb=>lJ (nC b)) ?_,H1.out⟩;have q1:=ai.out;have ah:=E.out;unfold qA;dsimp only;rw[Bool.eq_iff_iff];simp only[j4,Bool.or_eq_true,decide_eq_true_eq,false_and,true_and,false_or,or_false];omega
  all_goals
   go_wp2_with fail;go_returns;refine⟨congrArg (λb=>lJ (nC b)) ?_,H1.out⟩;have q1:=ai.out;have ah:=E.out;unfold qA;symm;first|(apply decide_eq_true;dsimp only;omega)|(apply decide_eq_false;dsimp only;omega)
 .rcases ET size 0 with⟨z0,J⟩|⟨z0,J⟩
  .have N:jX (jV jI 266 #[nk nI 0,nk nI 0,nA (U (Z g 0 V))] wc λe w'=>e=nG (nC true)/\wc=w'):=jH (by
    have h:=I.out 0 0;rwa [decide_eq_true (show 0<=size/\size<=0 by have:=J.out;omega)]at h)
   rcases C with⟨C,ae⟩|⟨C,ae⟩<;>rcases Q with⟨Q,au⟩|⟨Q,au⟩<;>rcases tl with⟨tl,af⟩|⟨tl,af⟩
   all_goals
    go_wp2_with fail;refine(N).mono ?_;rintro e w2 ⟨rfl,rfl⟩;go_wp2_with fail;go_returns;refine⟨congrArg (λb=>lJ (nC b)) ?_,H1.out⟩;have q1:=J.out;have ah:=ae.out;have aG:=au.out;have aH:=af.out;unfold qA;symm;first|(apply decide_eq_true;dsimp only;omega)|(apply decide_eq_false;dsimp only;omega)
  .have N:jX (jV jI 266 #[nk nI 0,nk nI 0,nA (U (Z g 0 V))] wc λe w'=>e=nG (nC false)/\wc=w'):=jH (by
    have h:=I.out 0 0;rwa [decide_eq_false (show¬(0<=size/\size<=0)by have:=J.out;omega)]at h)
   go_wp2_with fail;refine(N).mono ?_;rintro e w2 ⟨rfl,rfl⟩;go_wp2_with fail;go_returns;refine⟨congrArg (λb=>lJ (nC b)) ?_,H1.out⟩;have q1:=J.out;exact RI
 .go_wp2_with fail
  go_returns;refine⟨congrArg (λb=>lJ (nC b)) ?_,H1.out⟩;have q1:=ay.out;exact RI
abbrev zl(b:Nat)(w:jJ)(v:jP)(s:List (nM TL)):Prop:=oh.nX w (λc=>c≠b) v s
theorem zl.upd{s:List (nM TL)}(h:zl b w v s)(A:pE b w w'):zl b w' v s:=
 Shape.nX.keep h A.size (λ_ _ h=>h) λc hc C=>A.block c hc (by simpa using λe=>C (by rw[e]))
theorem zl.of{s:List (nM TL)}(h:oQ w v s)(hb:jS w.heap.size w w')(A:w.heap.size<=b):zl b w' v s:=
 Shape.nX.keep h hb.size (λc hc _=>by omega) λc hc _=>hb.block c hc
theorem zl.any{s:List (nM TL)}(h:zl b w v s):oQ w v s:=
 Shape.nX.keep h (jK _) (λ_ _ _=>trivial) λ_ _ _=>rfl
theorem zl.at_{bo:Nat}{oa:Option lH}{n cap:Nat}{s:List (nM TL)}(h:zl bo w (ny oa n cap) s){x:nM TL}(A:s[i]? =U x):
  ∃b off u,oa=U (Z b off V)/\b<w.heap.size/\b≠bo/\w.cell? (Z b (off+i*4) V)=U (nk nI x.lab.kind)/\w.cell? (Z b (off+i*4+1) V)=U (nk nI x.lab.size)/\
   w.cell? (Z b (off+i*4+2) V)=U u/\w.cell? (Z b (off+i*4+3) V)=U (nk nI x.lab.tail)/\zl bo w u x.sub/\TL.wf x.lab:=by
 obtain⟨N,C,E,h1,h2,I⟩:=Shape.nX.get h;cases E;obtain⟨b,off,u,e,hb,J,ho,hc,hs⟩:=I i x A;exact⟨b,off,u,e,hb,J,by simpa [oh,kR]using hc 0 nO,by simpa [oh,kR]using hc 1 nO,by simpa [oh,kR]using hc 2 nO,by simpa [oh,kR]using hc 3 nO,hs,ho⟩
def zR(w:jJ)(b l:Nat):Prop:=nP w b #[nk nI (l:Int)] 3
theorem zR.upd{c l:Nat}(h:zR w b l)(C:pE c w w')(A:b≠c):zR w' b l:=C.blk h A
def CB(x:nM TL)(d l:Nat):Bool:=decide (d+x.deep<=9)&&decide (x.count<=l)&&x.all oK
def Kz(x:nM TL)(d l b:Nat)(w:jJ)(e:Ending)(w':jJ):Prop:=
 e=nG (nC (CB x d l))/\pE b w w'/\(∃A,A<=64/\zR w' b A)/\(CB x d l=true->zR w' b (l - x.count))
theorem WZ(x:nM TL):∀(w:jJ)(v:jP)(d l bl:Nat),zl bl w v x.sub->zR w bl l->pW w->1≠bl->1<=d->d<=9->l<=64->
  jV jI 203 #[nD #[nk nI x.lab.kind,nk nI x.lab.size,v,nk nI x.lab.tail],nk nI d,nA (U (Z bl 0 V))] w (Kz x d l bl w):=by
 induction x using nM.ind with
 |h a s bE=>
  intro w v d l bl aG hI bg ak dC dD hl;simp only[nM.qx,nM.oZ]at aG⊢;obtain⟨oa,cap,rfl,bq,aM⟩:=oQ.slice aG.any;obtain⟨g,hg⟩:=nV w.heap.size;have bY:bl<g:=hg▸hI.lt;have bF:s.length<=9223372036854775807:=by unfold j3 at aM;omega
  have A:jX (CB (.node a s) d l=(decide (d+(nM.o9 s+1)<=9)&&decide (1+nM.nZ s<=l)&&(qA a s.length&&nM.o7 oK s))):=jH rfl;have ae:jX (∀e w',e=nG (nC (CB (.node a s) d l))/\pE bl w w'/\(∃O,O<=64/\zR w' bl O)/\(CB (.node a s) d l=true->zR w' bl (l -(1+nM.nZ s)))->Kz (.node a s) d l bl w e w'):=jH λe w' h=>h
  have bu:jX (∀W,w.alloc (nH #[nk nI a.kind,nk nI a.size,ny oa s.length cap,nk nI a.tail] 63)=W->pE bl w W/\zl bl W (ny oa s.length cap) s/\zR W bl l/\pW W/\W.heap.size=g+1/\
    nP W g #[nk nI a.kind,nk nI a.size,ny oa s.length cap,nk nI a.tail] 63):=jH λW h=>by
   subst h;have J:=(jT w.heap.size w).alloc (jK _) (nH #[nk nI a.kind,nk nI a.size,ny oa s.length cap,nk nI a.tail] 63);exact⟨pE.of J,aG.upd (pE.of J),Below.blk J hI hI.lt,bg.below J bg.lt,nT,hg▸nP.new w _ _⟩
  generalize CB (.node a s) d l=R at*;obtain⟨M,bz⟩:=nV s.length;have bG:=jH bz;have bZ:=jH bE;obtain⟨C,bA⟩:=nV (nM.nZ s);have bB:=jH bA;obtain⟨D,bC⟩:=nV (nM.o9 s);have bH:=jH bC;rw[bz]at bu bF A⊢;rw[bA]at A ae;rw[bC]at A;clear aG bq aM bE bz bA bC hI bg;generalize bI:Kz (.node a s) d l bl w=cz at ae⊢;clear bI;go_in;go_upto_region 1 with fail;generalize w.alloc (nH #[nk nI a.kind,nk nI a.size,ny oa M cap,nk nI a.tail] 63)=w1 at*;obtain⟨aN,ht1,au,av,hsz,hB⟩:=bu.out _ rfl;obtain⟨c0,c1,c2,c3⟩:=hB.a4;have dH:w1.cell? (Z bl 0 V)=U (nk nI l):=au.cell 0;have bJ:=jH hB;clear hB bu;have E:=jH (jU aN (jU ht1 (jU au av)));have bD:=jH (Un a oa M cap w1 av);clear aN ht1 au av;by_cases cd:8<d
  .have cK:decide (8<(d:Int))=true:=nT
   go_wp2_with fail;refine ae _ _ ⟨?_,E.1,⟨l,hl,E.2.2.1⟩,λh=> ?_⟩;.rw[A.out,decide_eq_false nL];rfl
   .rw[A.out,decide_eq_false nL]at h;simp at h
  have cK:decide (8<(d:Int))=false:=nT;by_cases cl:l=0
  .have cZ:((l:Int)==0)=true:=by simp[cl]
   have bK:=jH cl;clear cl;go_wp2_with fail;refine ae _ _ ⟨?_,E.1,⟨l,hl,E.2.2.1⟩,λh=> ?_⟩;.rw[A.out,decide_eq_false (by have:=bK.out;omega:¬1+C<=l),Bool.and_false];rfl
   .rw[A.out,decide_eq_false (by have:=bK.out;omega:¬1+C<=l),Bool.and_false]at h;simp at h
  have cZ:((l:Int)==0)=false:=nT;have dE:1<=l:=nL;have dF:d<=8:=nL;clear cl cd;generalize qA a M=K at*;cases K with
  |false=>
   go_wp2_with fail;refine(bD).mono ?_;rintro e w2 ⟨rfl,I⟩;have bL:=jH (E.1.trans (pE.of I));have bM:=jH (E.2.2.1.upd (pE.of I) (c:=g) nL);clear I;go_wp2_with fail;refine ae _ _ ⟨?_,bL.out,⟨l,hl,bM.out⟩,λh=> ?_⟩;.rw[A.out];simp
   .rw[A.out]at h;simp at h
  |true=>
   go_wp2_with fail;refine(bD).mono ?_;rintro e w2 ⟨rfl,I⟩;have aO:pE bl w1 w2:=pE.of I;have l2:w2.cell? (Z bl 0 V)=U (nk nI l):=(E.2.2.1.upd (pE.of I) (c:=g) nL).cell 0;have df:w2.frozen? (Z bl 0 V)=false:=nP.free (E.2.2.1.upd (pE.of I) (c:=g) nL) 0;have hst:jX (∀W,w2.setCell (Z bl 0 V) (nk nI ((l:Int) - 1))=W->pE bl w1 W/\zR W bl (l - 1)/\nP W g #[nk nI a.kind,nk nI a.size,ny oa M cap,nk nI a.tail] 63):=jH λW h=>by
    subst h;have h1:zR w2 bl l:=E.2.2.1.upd (pE.of I) (c:=g) nL;have h2:=nP.set h1 0 (nk nI ((l:Int) - 1));refine⟨aO.set 0 _,?_,?_⟩
    .unfold zR
     rw[show((l - 1:Nat):Int)=(l:Int) - 1 by omega];exact h2
    .exact nP.setOther ((pE.of (b:=bl) I).blk bJ nL) nT _
   clear I aO;have af:=jH E.2;have ax:=jH E.1;clear E bD;go_upto_region 4 with fail;generalize w2.setCell (Z bl 0 V) (nk nI ((l:Int) - 1))=w3 at*;obtain⟨ay,aP,az⟩:=hst.out _ rfl;have g2:w3.cell? (Z g 2 V)=U (ny oa M cap):=az.cell 2;have dG:g+1<=w3.heap.size:=by have:=ay.size;omega
   have bN:=jH (jU ay (jU aP az));clear hst ay aP az l2 df;go_wp2_with fail
   go_loopw [8,30] (λ_ iv bO=>∃k:Nat,iv=nk nI k/\k<=M/\jX (pE bl w1 bO)/\jX (zR bO bl (l - 1 - nM.nZ (s.take k)))/\
    jX (nM.nZ (s.take k)<=l - 1/\d+1+nM.o9 (s.take k)<=9/\nM.o7 oK (s.take k)=true)) (λ_ iv _=>M -(kT iv).toNat)
   case atStart=>exact⟨0,rfl,nL,jH bN.1,jH (by simpa [nM.nZ]using bN.2.1),jH ⟨by simp[nM.nZ],by simp[nM.o9];omega,by simp[nM.o7]⟩⟩
   case round=>
    obtain⟨k,rfl,hk,aA,ag,aH⟩:=hrel;have dh:jX (pE bl w wr):=jH (ax.trans aA);by_cases c:k<M
    .obtain⟨y,aj⟩:∃y,s[k]? =U y:=⟨_,jW (by rw[bG.out];exact c)⟩
     obtain⟨b,off,u,rfl,hlt,dw,dI,dJ,y2,dK,aI,bP⟩:=zl.at_ (zl.upd af.1 aA) aj;obtain⟨ou,cu,rfl,_,_⟩:=oQ.slice (zl.any aI);obtain⟨Q,aQ⟩:=nV y.sub.length;rw[aQ]at aI y2;clear aQ;have aR:=nM.vI aj;have aS:=nM.yK aj;have aT:=nM.wD (p:=oK) aj;have aB:=nM.uG s (k+1);have aC:=nM.vC s (k+1);rw[bB.out]at aB;rw[bH.out]at aC;have bQ:jX (y.all oK=false->nM.o7 oK s=false):=jH λh=>nM.tO aj h
     have bR:=jH (jU aR (jU aS (jU aT (jU aB aC))));obtain⟨N,aD⟩:=nV (l - 1 - nM.nZ (s.take k));have aU:=jH aD;have aJ:N<=64:=nL;rw[aD]at ag
     have bS:jX (∀W,wr.alloc (nH #[nk nI y.lab.kind,nk nI y.lab.size,ny ou Q cu,nk nI y.lab.tail] 63)=W->pE bl w1 W/\zl bl W (ny ou Q cu) y.sub/\zR W bl N/\pW W/\
       nP W wr.heap.size #[nk nI y.lab.kind,nk nI y.lab.size,ny ou Q cu,nk nI y.lab.tail] 63):=jH λW h=>by
      subst h;have J:=(jT wr.heap.size wr).alloc (jK _) (nH #[nk nI y.lab.kind,nk nI y.lab.size,ny ou Q cu,nk nI y.lab.tail] 63);exact⟨aA.trans (pE.of J),zl.upd aI (pE.of J),Below.blk J ag ag.lt,(pW.upd af.2.2 aA ak).below J (pW.upd af.2.2 aA ak).lt,nP.new wr _ _⟩
     clear aI bP aR aS aT aB aC aD;go_upto_region 7 with fail;generalize wr.alloc (nH #[nk nI y.lab.kind,nk nI y.lab.size,ny ou Q cu,nk nI y.lab.tail] 63)=w4 at*;obtain⟨aV,EU,aW,aX,Y⟩:=bS.out _ rfl;have b0:w4.cell? (Z wr.heap.size 0 V)=U (nk nI y.lab.kind):=Y.cell 0;have b1:w4.cell? (Z wr.heap.size 1 V)=U (nk nI y.lab.size):=Y.cell 1;have dL:w4.cell? (Z wr.heap.size 2 V)=U (ny ou Q cu):=Y.cell 2;have b3:w4.cell? (Z wr.heap.size 3 V)=U (nk nI y.lab.tail):=Y.cell 3
     have bT:jX (jV jI 203 #[nD #[nk nI y.lab.kind,nk nI y.lab.size,ny ou Q cu,nk nI y.lab.tail],nk nI ((d:Int)+1),nA (U (Z bl 0 V))] w4
       λe w'=>e=nG (nC (CB y (d+1) N))/\pE bl w1 w'/\(∃O,O<=64/\zR w' bl O)/\(CB y (d+1) N=true->zR w' bl (N - y.count))):=
      jH ((bZ y (kK aj) w4 (ny ou Q cu) (d+1) N bl EU aW aX ak nL nL aJ).mono λe w' h=>⟨h.1,aV.trans h.2.1,h.2.2⟩)
     have aY:jX (CB y (d+1) N=(decide (d+1+y.deep<=9)&&decide (y.count<=N)&&y.all oK)):=jH rfl;clear bS aV EU aW aX Y;generalize CB y (d+1) N=r at*;cases r with
     |true=>
      go_wp2_with fail;refine(bT).mono ?_;rintro e w5 ⟨rfl,aa,⟨O,aZ,ah⟩,ai⟩;have aF:=jH aa;have bU:=jH (ai (by trivial));clear aa ah ai;go_wp2_with fail;have h1:=aY.out;have h2:=bR.out;have dx:=aU.out;have dz:=aH.out;simp only[Bool.true_eq,j4,decide_eq_true_eq]at h1;go_roundw;case rel=>
       refine⟨k+1,by go_num,nL,jH aF.out,jH ?_,jH ⟨by rw[h2.1];omega,by rw[h2.2.1];omega,by rw[h2.2.2.1,dz.2.2,h1.2];rfl⟩⟩;rw[h2.1,show l - 1 -(nM.nZ (s.take k)+y.count)=N - y.count by omega];exact bU
      case measure=>simp[kT];omega
     |false=>
      go_wp2_with fail;refine(bT).mono ?_;rintro e w5 ⟨rfl,aa,⟨O,aZ,ah⟩,ai⟩;have aF:=jH (ax.trans aa);have bV:=jH ah;clear aa ah ai;go_wp2_with fail;have aK:R=false:=by
       have h1:=aY.out;have h2:=bR.out;have dx:=aU.out;rw[A.out];have dA:¬(d+(D+1)<=9/\1+C<=l/\nM.o7 oK s=true):=by
        rintro⟨dM,g2,g3⟩;have e1:d+1+y.deep<=9:=by have:=h2.2.1;have:=h2.2.2.2.2;omega
        have e2:y.count<=N:=by have:=h2.1;have:=h2.2.2.2.1;omega
        have e3:y.all oK=true:=by
         cases bW:y.all oK with
         |true=>rfl
         |false=>rw[bQ.out bW]at g3;cases g3
        rw[decide_eq_true e1,decide_eq_true e2,e3]at h1;cases h1
       cases aL:(decide (d+(D+1)<=9)&&decide (1+C<=l)&&(true&&nM.o7 oK s))with
       |false=>rfl
       |true=>
        exfalso;simp only[Bool.true_and,j4,decide_eq_true_eq]at aL;exact dA ⟨aL.1.1,aL.1.2,aL.2⟩
      exact ae _ _ ⟨by rw[aK];rfl,aF.out,⟨O,aZ,bV.out⟩,λh=>by rw[aK]at h;cases h⟩
    .obtain rfl:k=M:=nL
     have bX:s.take k=s:=by rw[<-bG.out,l9]
     rw[bX]at ag aH;rw[bB.out,bH.out]at aH;rw[bB.out]at ag;go_wp2_with fail;have dB:=aH.out;have aK:R=true:=by
      rw[A.out,decide_eq_true nL,decide_eq_true nL,dB.2.2];rfl
     refine ae _ _ ⟨by rw[aK];rfl,dh.out,⟨l - 1 - C,nL,ag.out⟩,λ_=> ?_⟩;rw[show l -(1+C)=l - 1 - C by omega];exact ag
theorem Uo(x:nM TL):CB x 1 64=p9 x:=by
 unfold CB p9;rw[show decide (1+x.deep<=9)=decide (x.deep<=8)by rw[decide_eq_decide];omega,Bool.and_comm (decide (x.deep<=8))]
theorem CE(x:nM TL)(w:jJ)(v:jP)(O:oQ w v x.sub)(I:pW w):
  jV jI 163 #[nD #[nk nI x.lab.kind,nk nI x.lab.size,v,nk nI x.lab.tail]] w λe w'=>e=nG (nC (p9 x))/\jS w.heap.size w w':=by
 rw[<-Uo];have Q:=I.lt;have E:=jH (uH (k:=x.lab.kind) (z:=x.lab.size) (l:=x.lab.tail) (t:=63) O);obtain⟨g,hg⟩:=nV w.heap.size;rw[hg]at E Q⊢
 have Y:jX (∀W A,w.alloc (nH #[nk nI x.lab.kind,nk nI x.lab.size,v,nk nI x.lab.tail] 63)=W->W.alloc (nH #[nk nI 64] 3)=A->
   jV jI 203 #[nD #[nk nI x.lab.kind,nk nI x.lab.size,v,nk nI x.lab.tail],nk nI 1,nA (U (Z (g+1) 0 V))] A λe w'=>e=nG (nC (CB x 1 64))/\jS g w w'):=jH λW A h h2=>by
  obtain⟨a1,a2,a3,_⟩:=E.out W h;have b1:=(jT W.heap.size W).alloc (jK _) (nH #[nk nI 64] 3);rw[h2]at b1;have hI:zR A (g+1) 64:=by
   subst h2;have:=nP.new W #[nk nI 64] 3;rw[a3]at this;exact this
  have aa:pW A:=(I.below (hg▸a1:jS w.heap.size w W) I.lt).below b1 nL;refine(WZ x A v 1 64 (g+1) (zl.of a2 b1 nL) hI aa nL nO nO nO).mono λe w' h=>⟨h.1,?_⟩
  have af:jS g w A:=a1.trans (b1.mono nL);exact h.2.1.below af nL (by have:=b1.size;omega)
 clear O I;generalize CB x 1 64=R at*;go_in;go_upto_region 1 with fail;have ag:jX ((w.alloc (nH #[nk nI x.lab.kind,nk nI x.lab.size,v,nk nI x.lab.tail] 63)).heap.size=g+1):=jH (E _ rfl).2.2.1;have J:=jH (λA=>Y.out _ A rfl);obtain⟨c0,c1,c2,c3⟩:=(E _ rfl).2.2.2;generalize w.alloc (nH #[nk nI x.lab.kind,nk nI x.lab.size,v,nk nI x.lab.tail] 63)=w1 at*;have hs:=ag.out;have hB:jX (∀A,w1.alloc (nH #[nk nI 64] 3)=A->jS (g+1) w1 A):=jH λA h=>by
  subst h;have:=(jT w1.heap.size w1).alloc (jK _) (nH #[nk nI 64] 3);rwa [hs]at this
 clear E Y;go_upto_region 2 with fail;generalize w1.alloc (nH #[nk nI 64] 3)=w2 at*;have C:=hB.out _ rfl;have ah:=jH (J _ rfl);have ai:=(C.cell (p:=(Z g 0 V)) (lK g)).trans c0;have aj:=(C.cell (p:=(Z g 1 V)) (lK g)).trans c1;have d2:=(C.cell (p:=(Z g 2 V)) (lK g)).trans c2;have ak:=(C.cell (p:=(Z g 3 V)) (lK g)).trans c3;clear C hB J c0 c1 c2 c3;go_wp2_with fail;refine(ah).mono ?_;rintro e w3 ⟨rfl,N⟩;have ae:=jH N;clear N;go_wp2_with fail;go_returns;exact⟨rfl,ae.out⟩
def CJ(l A:List UInt8)(i:Nat):Prop:=A.length=l.length/\∀m,m<l.length->A[m]? =if m<i\/l.length - i<=m then l[l.length - 1 - m]? else l[m]?
theorem CJ.start(l:List UInt8):CJ l l 0:=⟨rfl,λm h=>by rw[if_neg nL]⟩
theorem CJ.done{l A:List UInt8}(h:CJ l A i)(hi:l.length<=i+i+1):A=l.reverse:=by
 apply List.ext_getElem?;intro m;by_cases C:m<l.length
 .rw[h.2 m C,List.getElem?_reverse C]
  split;.rfl
  .rw[show l.length - 1 - m=m by omega]
 .rw[List.getElem?_eq_none (by rw[h.1];omega),List.getElem?_eq_none nT]
theorem CJ.step{l A:List UInt8}{j:Nat}(h:CJ l A i)(J:j+i+1=l.length)(I:i<j)(a b:UInt8)(C:A[i]? =U a)(hb:A[j]? =U b):CJ l ((A.set i b).set j a) (i+1):=by
 refine⟨by simp[h.1],λm E=> ?_⟩;have h1:=h.2 i nL;have h2:=h.2 j nL;rw[if_neg nL]at h1 h2;by_cases c:m=j
 .subst c
  rw[List.getElem?_set_self (by simp[h.1];omega),if_pos nL,<-C,h1];congr 1;omega
 .rw[List.getElem?_set_ne nL]
  by_cases d:m=i
  .subst d
   rw[List.getElem?_set_self (by rw[h.1];omega),if_pos nL,<-hb,h2];congr 1;omega
  .rw[List.getElem?_set_ne nL,h.2 m E]
   by_cases e:m<i\/l.length - i<=m;.rw[if_pos e,if_pos nL]
   .rw[if_neg e,if_neg nL]
theorem Gp(l:List UInt8)(i:Nat)(b:UInt8):(nU l).set i (nk .u8 (b.toNat:Int))=nU (l.set i b):=by simp[nU]
theorem Gq(l:List UInt8)(i:Nat)(b:UInt8)(h:l[i]? =U b):(nU l)[i]? =U (nk .u8 (b.toNat:Int)):=by simp[nU,h]
theorem Gr{u v:jJ}(h:u.grownBy v r)(k:v.grownBy w r):u.grownBy w r:=
 ⟨k.os.trans h.os,k.tape.trans h.tape,k.output.trans h.output,jY h.size k.size,λi hi A=>(k.block i (kG hi h.size) A).trans (h.block i hi A)⟩
theorem PN{u v:jJ}(h:u.grownBy v r):u.grownBy v.drew r:=⟨h.os,h.tape,h.output,h.size,h.block⟩
theorem Gs(B g:Nat)(l:List UInt8)(k:Nat)(w:jJ)(hk:k<=140737488355328)(hl:l.length=k)(ho:ow w B 5 (ny (U (Z g 0 V)) k k) l):
  jV jI 265 #[ny (U (Z g 0 V)) k k] w λe w'=>e=nG (nE #[])/\ow w' B 5 (ny (U (Z g 0 V)) k k) l.reverse/\w.grownBy w' (U g):=by
 have ax:=CJ.start l;have J:=jH hl;clear hl;go_in;go_wp2_with fail;go_loopw [2,3] (λiv ay wr=>∃(i:Nat) (aa:Int) (C:List UInt8),iv=nk nI i/\ay=nk nI aa/\aa=(k:Int) - 1 - i/\i<=k/\CJ l C i/\ow wr B 5 (ny (U (Z g 0 V)) k k) C/\w.grownBy wr (U g)) (λiv _ _=>k -(kT iv).toNat);case atStart=>exact⟨0,_,l,rfl,rfl,nL,nL,ax,ho,World.grownBy.refl _ _⟩
 case round=>
  obtain⟨i,aa,C,rfl,rfl,ae,hi,I,A,hg⟩:=hrel;by_cases c:(i:Int)<aa
  .obtain⟨j,rfl⟩:∃j:Nat,aa=j:=⟨aa.toNat,nL⟩
   have af:i<j:=nL;have aB:j<k:=nL;have E:C.length=k:=I.1.trans J.out;obtain⟨a,O⟩:∃a,C[i]? =U a:=⟨_,jW nL⟩;obtain⟨b,hb⟩:∃b,C[j]? =U b:=⟨_,jW nL⟩;have ag:=jH (I.step (by have:=J.out;omega) af a b O hb);unfold ow at A;rw[E]at A;have ah:wr.cell? (Z g i V)=U (nk .u8 (a.toNat:Int)):=by rw[A.cellAt i nL,Gq _ _ _ O]
   have ai:wr.cell? (Z g j V)=U (nk .u8 (b.toNat:Int)):=by rw[A.cellAt j nL,Gq _ _ _ hb]
   have aj:=A.frozenAt i;have ak:=A.frozenAt j;have Q:=jH E;have au:=jH ae;clear ae I E O hb;go_wp2_with fail;go_region;have Y:=A.stored i (nk .u8 (b.toNat:Int));have N:=Y.1.stored j (nk .u8 (a.toNat:Int));rw[Gp,Gp]at N;have av:ow ((wr.setCell (Z g i V) (nk .u8 (b.toNat:Int))).setCell (Z g j V) (nk .u8 (a.toNat:Int))).drew B 5 (ny (U (Z g 0 V)) k k) ((C.set i b).set j a):=by
    have:=World.ownsRow.drew N.1;unfold ow;rw[List.length_set,List.length_set,Q.out];exact this
   have g3:w.grownBy ((wr.setCell (Z g i V) (nk .u8 (b.toNat:Int))).setCell (Z g j V) (nk .u8 (a.toNat:Int))).drew (U g):=PN (Gr (Gr hg Y.2) N.2);have az:=jH av;have aA:=jH g3;clear Y N av g3 ah ai aj ak A hg;generalize ((wr.setCell (Z g i V) (nk .u8 (b.toNat:Int))).setCell (Z g j V) (nk .u8 (a.toNat:Int))).drew=W at*;go_wp2_with fail;go_roundw;case rel=>exact⟨i+1,(j:Int) - 1,_,by go_num,rfl,by have:=au.out;omega,nL,ag.out,az.out,aA.out⟩
   case measure=>simp[kT];omega
  .have E:C.length=k:=I.1.trans J.out
   have hd:=I.done (by have:=J.out;omega);subst hd;go_wp2_with fail;go_end0;exact⟨rfl,A,hg⟩
theorem Uq{a b:ByteArray}(h:a.data.toList=b.data.toList):a=b:=by
 apply ByteArray.ext;exact Array.toList_inj.1 h
theorem Below.row{B g:Nat}{w0:jJ}(hb:jS B w0 w)(hg:w.grownBy w' (U g))(h:B<=g)(A:B<=w.heap.size):jS B w0 w':=
 hb.grown hg A λk hk=>by simp at hk;omega
theorem PO(B g:Nat)(l:List UInt8)(k:Nat)(w:jJ)(hk:k<=140737488355328)(hl:l.length=k)(ho:ow w B 5 (ny (U (Z g 0 V)) k k) l):
  jV jI 239 #[ny (U (Z g 0 V)) k k] w λe w'=>e=nG (nz ⟨l.reverse.toArray⟩)/\w.grownBy w' (U g):=by
 have c1:=jH (Gs B g l k w hk hl ho);go_in;go_wp2_with fail;refine c1.mono ?_;rintro e w' ⟨rfl,A,hg⟩;have hst:=A.string Ch;go_wp2_with fail;go_returns;exact⟨rfl,hg⟩
theorem M4:∀ k n:Nat,n<256^k->n<18446744073709551616->(BB n).length=(Lib.bitLen n+7)/8
 |0,n,hk,h=>by simp at hk;subst hk;rw[uy];rfl
 |k+1,n,hk,h=>by
  by_cases c:n=0;.subst c;rw[uy];rfl
  .by_cases c2:n<256
   .rw[yE n nL,show n/256=0 by omega,uy]
    have h1:=Lib.bitLen_le n 8 nL c2;have h2:1<=Lib.bitLen n:=by rw[Lib.bitLen_half n nL nL];omega
    simp;omega
   .rw[yE n nL,kF,M4 k (n/256) (by rw[Nat.pow_succ]at hk;omega) nL,Lib.bitLen_shift 8 n nL h]
    have:n/2^8=n/256:=rfl;rw[this];omega
theorem Jg(n:Nat)(w:jJ)(hn:n<18446744073709551616):
  jV jI 202 #[nk nJ n] w λe w'=>e=nG (nz ⟨(BB n).reverse.toArray⟩)/\jS w.heap.size w w':=by
 have hlen:=M4 8 n (kG hn nO) hn;have A:=DC 8 n (kG hn nO);have hb:Lib.bitLen n<=64:=Lib.bitLen_le n 64 nL hn;have c0:=λw=>Tryz.bits_Len64 n w nL nL
 rw[Int.toNat_natCast]at c0;have c2:=λw=>FQ n ((Lib.bitLen n+7)/8) w hn nL
 have c4:=λB g w ho=>PO B g (vX ((Lib.bitLen n+7)/8) n) ((Lib.bitLen n+7)/8) w nL (qG _ n) ho
 rw[a2Y n,hlen];clear hlen A;generalize Lib.bitLen n=m at*;have C:=jH c0;have E:=jH c2;have I:=jH c4;clear c0 c2 c4;have J:jX ((((m:Nat):Int)+7)/8=(((m+7)/8:Nat):Int)):=by unfold jX;omega
 go_in;go_wp2_with fail;refine(C _).mono ?_;rintro e w' ⟨rfl,rfl⟩;go_wp2_with fail;rw[J.out];refine(E _).mono ?_;rintro e w1 ⟨rfl,ho,hb⟩;go_wp2_with fail;refine(I _ _ _ ho).mono ?_;rintro e w2 ⟨rfl,hg⟩;go_wp2_with fail;go_returns;exact⟨rfl,Below.row hb hg (jK _) hb.size⟩
theorem a0W(n b:Nat)(hn:n<72057594037927936)(hb:b<256):
  bits BinOp.or IntKind.u64 (IntKind.u64.wrap ((n:Int)*256)) (b:Int)=((256*n+b:Nat):Int):=by
 rw[show((n:Int)*256)=((n*256:Nat):Int)from by simp,IntWalk.u64_in _ ⟨nL,nL⟩,u64_or_nat (n*256) b nL nL];congr 1;have:=mO (show b<2^8 by omega) n;rw[Nat.mul_comm n 256,show(256:Nat)=2^8 from rfl,<-this]
theorem PQ(s:ByteArray)(w:jJ)(h1:1<=s.size)(C:s.size<=8):
  jV jI 268 #[nz s] w λe w'=>e=nG (nE #[nk nJ (uO s.data.toList),nk nI 0])/\w=w':=by
 have c1:=jH (Et s.size w h1 C);go_in;go_wp2_with fail;refine c1.mono ?_;rintro e w' ⟨rfl,rfl⟩;go_wp2_with fail;go_loop [5,15] (λA i=>∃k n:Nat,k<=s.size/\i=nk nI k/\A=nk nJ n/\jX (n=uO (s.data.toList.take k))) (λ_ i=>s.size -(kT i).toNat);case atStart=>exact⟨0,0,nL,rfl,rfl,rfl⟩
 case round=>
  obtain⟨k,n,hk,rfl,rfl,hv⟩:=hrel;by_cases c:k<s.size
  .have hb:s[k].toNat<=255:=by have:=s[k].toNat_lt;omega
   have hn:n<72057594037927936:=by
    have h1:=J6 (s.data.toList.take k);have h2:(s.data.toList.take k).length<=7:=by rw[mi];omega
    rw[hv.out];exact kG h1 (jY (lg nO h2) nO)
   have hor:=jH (a0W n s[k].toNat hn nL);have hnx:jX (256*n+s[k].toNat=uO (s.data.toList.take (k+1))):=by unfold jX;rw[VY s k c,Ty,hv.out]
   clear hn;exact Rj
  .exact Rk
def pK(l:List UInt8):Nat×Nat:=match l with
 |[]=>(0,0)
 |b::r=>if 8<r.length+1 then(0,5)else if b.toNat=0 then(0,3)else(uO (b::r),0)
def n2(t:Nat×Nat):jP:=nE #[nk nJ t.1,nk nI t.2]
theorem RJ(h:p:=by
 have h':0<s.data.toList.length:=by simpa using h
 have:=List.drop_eq_getElem_cons h';rw[List.drop_zero]at this;exact this):p:=h
theorem sK(s:ByteArray)(h:0<s.size):s.data.toList=s[0]::s.data.toList.drop 1:=by
 exact RJ
theorem zS(s:ByteArray)(h:0<s.size):s.toList.isEmpty=false:=by
 rw[Lib.toList_data,sK s h];rfl
theorem xP(h:p:=by
 go_wp2_with fail;go_returns;exact⟨by rw[e.out];rfl,rfl⟩):p:=h
theorem yM(s:ByteArray)(w:jJ)(hs:s.size<=j3):
  jV jI 243 #[nz s] w λe w'=>e=nG (n2 (pK s.data.toList))/\w=w':=by
 unfold j3 at hs;by_cases h0:s.size=0
 .have e:s=⟨#[]⟩:=Uq (mU.1 (by simpa using h0))
  subst e;exact BC
 .have hp:0<s.size:=nL
  have E:=zS s hp;have hl:(s.data.toList.drop 1).length+1=s.size:=by rw[kX];simp;omega
  clear h0;have hb:s[0].toNat<=255:=by have:=s[0].toNat_lt;omega
  by_cases I:8<s.size
  .have e:jX (pK s.data.toList=(0,5)):=by unfold jX;rw[sK s hp,pK,if_pos nL]
   clear hl;go_in;exact xP
  .by_cases A:s[0].toNat=0
   .have e:jX (pK s.data.toList=(0,3)):=by unfold jX;rw[sK s hp,pK,if_neg nL,if_pos A]
    have C:((s[0].toNat:Int)==0)=true:=Tp;clear hl A;go_in;exact xP
   .have e:jX (pK s.data.toList=(uO s.data.toList,0)):=by unfold jX;rw[sK s hp,pK,if_neg nL,if_neg A]
    have C:((s[0].toNat:Int)==0)=false:=wG;have c1:=jH (PQ s w nL nL);generalize uO s.data.toList=v at*;clear hl A;go_in;go_wp2_with fail;refine c1.mono ?_;rintro e w' ⟨rfl,rfl⟩;exact xP
abbrev EW:ko:=63
def okL(l:List UInt8):Bool:=(pK l).2==0
def zT(a:TL)(x:IL):Bool:= !x.list&&okL x.text&&decide ((x.text.length:Int)<=a.size)
def Bg(a:TL)(x:IL):Bool:= !x.list&&decide ((x.text.length:Int)=a.size)
def Bh(a:TL)(x:IL):Bool:= !x.list&&decide ((x.text.length:Int)<=a.size)
def CK(a:TL)(x:IL)(m:Nat):Bool:=x.list&&decide ((m:Int)<=a.size)
def zU(a:TL)(n:Nat)(x:IL)(m:Nat):Bool:=x.list&&decide (m<=n)&&decide ((n:Int) - a.tail<=(m:Int))
theorem BS(k z tl:Int)(tv:jP)(tx:ByteArray)(li:Bool)(iv:jP):∀W,(w.alloc (nH #[nk nI k,nk nI z,tv,nk nI tl] EW)).alloc (nH #[nz tx,nC li,iv] IT)=W->
  jS w.heap.size w W/\(W.cell? (Z w.heap.size 0 V)=U (nk nI k)/\W.cell? (Z w.heap.size 1 V)=U (nk nI z)/\W.cell? (Z w.heap.size 2 V)=U tv/\W.cell? (Z w.heap.size 3 V)=U (nk nI tl))/\
   (W.cell? (Z (w.heap.size+1) 0 V)=U (nz tx)/\W.cell? (Z (w.heap.size+1) 1 V)=U (nC li)/\W.cell? (Z (w.heap.size+1) 2 V)=U iv)/\W.heap.size=w.heap.size+2:=by
 rintro W rfl;have h1:=(nP.new w #[nk nI k,nk nI z,tv,nk nI tl] EW).alloc (nH #[nz tx,nC li,iv] IT);have h2:=nP.new (w.alloc (nH #[nk nI k,nk nI z,tv,nk nI tl] EW)) #[nz tx,nC li,iv] IT;have A:(w.alloc (nH #[nk nI k,nk nI z,tv,nk nI tl] EW)).heap.size=w.heap.size+1:=nS;rw[A]at h2;exact⟨((jT _ w).alloc (jK _) _).alloc nS _,⟨h1.cell 0,h1.cell 1,h1.cell 2,h1.cell 3⟩,⟨h2.cell 0,h2.cell 1,h2.cell 2⟩,nS⟩
theorem Xa(x:IL)(iv:jP)(w:jJ)(I:x.text.length<=j3):
  jV jI 206 #[nD #[nz (txt x),nC x.list,iv]] w λe w'=>(∃n:Nat,e=nG (nE #[nk nJ n,nk nI (if x.list then 12 else((pK x.text).2:Nat):Int)]))/\jS w.heap.size w w':=by
 have hb:=nP.new w #[nz (txt x),nC x.list,iv] IT;have C:=(jT w.heap.size w).alloc (jK _) (nH #[nz (txt x),nC x.list,iv] IT);obtain⟨g,hg⟩:=nV w.heap.size;rw[hg]at hb C⊢;have A:=λW=>yM (txt x) W (by rw[sF];exact I)
 rw[Cx]at A;unfold n2 at A;have A:=jH A;have E:=jH C;obtain⟨tx,li⟩:=x;dsimp only at*;generalize txt ⟨tx,li⟩=N at*;generalize pK tx=G at*;obtain⟨J,ge⟩:=G;dsimp only at A;obtain⟨c0,c1⟩:=hb.a2;clear hb C I;cases li with
 |true=>
  go_in;go_upto_region 1 with fail;generalize w.alloc _=w1 at*;go_wp2_with fail;go_returns;exact⟨⟨0,rfl⟩,E.out⟩
 |false=>
  go_in;go_upto_region 1 with fail;generalize w.alloc _=w1 at*;go_wp2_with fail;refine(A _).mono ?_;rintro e w2 ⟨rfl,rfl⟩;go_wp2_with fail;go_returns;exact⟨⟨J,rfl⟩,E.out⟩
theorem x9(h:p:=by
 clear HR;go_in;go_upto_region 1 with fail;generalize (w.alloc _).alloc _=w1 at*;obtain⟨hb1,⟨t0,t1,t2,t3⟩,⟨i0,i1,i2⟩,hsz⟩:=HW.out _ rfl;have HB:=jH hb1;clear HW hb1;go_wp2_with fail;go_returns;exact⟨by rw[HE.out];rfl,HB.out⟩):p:=h
theorem Xb(a:TL)(x:IL)(tv iv:jP)(w:jJ)(E:x.text.length<=j3):
  jV jI 229 #[nD #[nk nI a.kind,nk nI a.size,tv,nk nI a.tail],nD #[nz (txt x),nC x.list,iv]] w λe w'=>e=nG (nC (Bg a x))/\jS w.heap.size w w':=by
 have HW:=jH (BS (w:=w) a.kind a.size a.tail tv (txt x) x.list iv);have I:=sF x;obtain⟨g,hg⟩:=nV w.heap.size;have J:x.text.length<=9223372036854775807:=by unfold j3 at E;omega
 obtain⟨R,A⟩:=nV (Bg a x);have HR:=jH A;rw[A];rw[hg]at HW⊢;obtain⟨tx,li⟩:=x;obtain⟨k,z,tl⟩:=a;dsimp only at*;generalize txt ⟨tx,li⟩=N at*;obtain⟨L,hL⟩:=nV tx.length;have C:=jH hL;rw[hL]at I J;clear A E hL;cases li with
 |true=>
  have HE:jX (R=false):=jH (by rw[<-HR.out];unfold Bg;dsimp only;simp only[C.out];simp;first|done|omega);exact x9
 |false=>
  by_cases c:(L:Int)=z
  .skip
   have HE:jX (R=true):=jH (by rw[<-HR.out];unfold Bg;dsimp only;simp only[C.out];simp;first|done|omega);have e1:((L:Int)==z)=true:=nT;exact x9
  .skip
   have HE:jX (R=false):=jH (by rw[<-HR.out];unfold Bg;dsimp only;simp only[C.out];simp;first|done|omega);have e1:((L:Int)==z)=false:=nT;exact x9
theorem Xc(a:TL)(x:IL)(tv iv:jP)(w:jJ)(E:x.text.length<=j3):
  jV jI 232 #[nD #[nk nI a.kind,nk nI a.size,tv,nk nI a.tail],nD #[nz (txt x),nC x.list,iv]] w λe w'=>e=nG (nC (Bh a x))/\jS w.heap.size w w':=by
 have HW:=jH (BS (w:=w) a.kind a.size a.tail tv (txt x) x.list iv);have I:=sF x;obtain⟨g,hg⟩:=nV w.heap.size;have J:x.text.length<=9223372036854775807:=by unfold j3 at E;omega
 obtain⟨R,A⟩:=nV (Bh a x);have HR:=jH A;rw[A];rw[hg]at HW⊢;obtain⟨tx,li⟩:=x;obtain⟨k,z,tl⟩:=a;dsimp only at*;generalize txt ⟨tx,li⟩=N at*;obtain⟨L,hL⟩:=nV tx.length;have C:=jH hL;rw[hL]at I J;clear A E hL;cases li with
 |true=>
  have HE:jX (R=false):=jH (by rw[<-HR.out];unfold Bh;dsimp only;simp only[C.out];simp;first|done|omega);exact x9
 |false=>
  by_cases c:(L:Int)<=z
  .skip
   have HE:jX (R=true):=jH (by rw[<-HR.out];unfold Bh;dsimp only;simp only[C.out];simp;first|done|omega);have e1:decide ((L:Int)<=z)=true:=nT;exact x9
  .skip
   have HE:jX (R=false):=jH (by rw[<-HR.out];unfold Bh;dsimp only;simp only[C.out];simp;first|done|omega);have e1:decide ((L:Int)<=z)=false:=nT;exact x9
theorem Xd(a:TL)(x:IL)(ot oi:Option lH)(n m ct ci:Nat)(w:jJ)(hn:n<=100000)(I:m<=100000)(htl:0<=a.tail/\a.tail<=100000):
  jV jI 233 #[nD #[nk nI a.kind,nk nI a.size,ny ot n ct,nk nI a.tail],nD #[nz (txt x),nC x.list,ny oi m ci]] w λe w'=>e=nG (nC (CK a x m))/\jS w.heap.size w w':=by
 have HW:=jH (BS (w:=w) a.kind a.size a.tail (ny ot n ct) (txt x) x.list (ny oi m ci));obtain⟨g,hg⟩:=nV w.heap.size;obtain⟨R,A⟩:=nV (CK a x m);have HR:=jH A;rw[A];rw[hg]at HW⊢;obtain⟨tx,li⟩:=x;obtain⟨k,z,tl⟩:=a;dsimp only at*;generalize txt ⟨tx,li⟩=J at*;clear A;obtain⟨C,E⟩:=htl;cases li with
 |false=>
  have HE:jX (R=false):=jH (by rw[<-HR.out];unfold CK;dsimp only;simp;first|done|omega);exact x9
 |true=>
  by_cases c:(m:Int)<=z
  .have e1:decide ((m:Int)<=z)=true:=nT
   have HE:jX (R=true):=jH (by rw[<-HR.out];unfold CK;dsimp only;simp;first|done|omega);exact x9
  .have e1:decide ((m:Int)<=z)=false:=nT
   have HE:jX (R=false):=jH (by rw[<-HR.out];unfold CK;dsimp only;simp;first|done|omega);exact x9
theorem Xe(a:TL)(x:IL)(ot oi:Option lH)(n m ct ci:Nat)(w:jJ)(hn:n<=100000)(I:m<=100000)(htl:0<=a.tail/\a.tail<=100000):
  jV jI 236 #[nD #[nk nI a.kind,nk nI a.size,ny ot n ct,nk nI a.tail],nD #[nz (txt x),nC x.list,ny oi m ci]] w λe w'=>e=nG (nC (zU a n x m))/\jS w.heap.size w w':=by
 have HW:=jH (BS (w:=w) a.kind a.size a.tail (ny ot n ct) (txt x) x.list (ny oi m ci));obtain⟨g,hg⟩:=nV w.heap.size;obtain⟨R,A⟩:=nV (zU a n x m);have HR:=jH A;rw[A];rw[hg]at HW⊢;obtain⟨tx,li⟩:=x;obtain⟨k,z,tl⟩:=a;dsimp only at*;generalize txt ⟨tx,li⟩=J at*;clear A;obtain⟨C,E⟩:=htl;cases li with
 |false=>
  have HE:jX (R=false):=jH (by rw[<-HR.out];unfold zU;dsimp only;simp;first|done|omega);exact x9
 |true=>
  by_cases c:m<=n
  .have e1:decide (m<=n)=true:=nT
   by_cases c2:(n:Int) - tl<=(m:Int)
   .have e2:decide ((n:Int) - tl<=(m:Int))=true:=nT
    have HE:jX (R=true):=jH (by rw[<-HR.out];unfold zU;dsimp only;simp;first|done|omega);exact x9
   .have e2:decide ((n:Int) - tl<=(m:Int))=false:=nT
    have HE:jX (R=false):=jH (by rw[<-HR.out];unfold zU;dsimp only;simp;first|done|omega);exact x9
  .have e1:decide (m<=n)=false:=nT
   have HE:jX (R=false):=jH (by rw[<-HR.out];unfold zU;dsimp only;simp;first|done|omega);exact x9
theorem KA(h:p:=by
 clear HR;go_in;go_upto_region 1 with fail;generalize (w.alloc _).alloc _=w1 at*;obtain⟨hb1,⟨t0,t1,t2,t3⟩,⟨i0,i1,i2⟩,hsz⟩:=HW.out _ rfl;have HB:=jH hb1;clear HW hb1;go_wp2_with fail;refine(CO _).mono ?_;rintro e w2 ⟨⟨nn,rfl⟩,hb2⟩;have HB2:=jH (HB.trans (hb2.mono nL));have x1:=(hb2.cell (p:=(Z (g+1) 0 V)) (by show g+1<_;omega)).trans i0;have x2:=(hb2.cell (p:=(Z g 1 V)) (by show g<_;omega)).trans t1;clear hb2 i0 i1 i2 t0 t1 t2 t3;go_wp2_with fail;go_returns;exact⟨by rw[HE.out];rfl,HB2.out⟩):p:=h
theorem Xf(a:TL)(x:IL)(tv iv:jP)(w:jJ)(E:x.text.length<=j3):
  jV jI 228 #[nD #[nk nI a.kind,nk nI a.size,tv,nk nI a.tail],nD #[nz (txt x),nC x.list,iv]] w λe w'=>e=nG (nC (zT a x))/\jS w.heap.size w w':=by
 have HW:=jH (BS (w:=w) a.kind a.size a.tail tv (txt x) x.list iv);have N:=sF x;obtain⟨g,hg⟩:=nV w.heap.size;have O:x.text.length<=9223372036854775807:=by unfold j3 at E;omega
 have CO:=λ(W:jJ)=>Xa x iv W E
 obtain⟨R,I⟩:=nV (zT a x);have HR:=jH I;rw[I];rw[hg]at HW⊢;obtain⟨tx,li⟩:=x;obtain⟨k,z,tl⟩:=a;dsimp only at*;generalize txt ⟨tx,li⟩=J at*;obtain⟨L,hL⟩:=nV tx.length;have C:=jH hL;rw[hL]at N O;clear I E hL;have CO:∀W,jV jI 206 #[nD #[nz J,nC li,iv]] W λe w'=>(∃n:Nat,e=nG (nE #[nk nJ n,nk nI (if li then 12 else((pK tx).2:Nat):Int)]))/\jS W.heap.size W w':=CO
 have CO:=jH CO;cases li with
 |true=>
  have CO:jX (∀W,jV jI 206 #[nD #[nz J,nC true,iv]] W λe w'=>(∃n:Nat,e=nG (nE #[nk nJ n,nk nI 12]))/\jS W.heap.size W w'):=CO;have HE:jX (R=false):=jH (by rw[<-HR.out];unfold zT;dsimp only;first|rfl|(rw[A.out,C.out];simp;first|done|omega));exact KA
 |false=>
  have CO:jX (∀W,jV jI 206 #[nD #[nz J,nC false,iv]] W λe w'=>(∃n:Nat,e=nG (nE #[nk nJ n,nk nI ((pK tx).2:Nat)]))/\jS W.heap.size W w'):=CO;have A:jX (okL tx=((pK tx).2==0)):=jH rfl;generalize (pK tx).2=GE at*;by_cases c0:GE=0
  .subst c0
   by_cases c:(L:Int)<=z
   .have e1:decide ((L:Int)<=z)=true:=nT
    have HE:jX (R=true):=jH (by rw[<-HR.out];unfold zT;dsimp only;first|rfl|(rw[A.out,C.out];simp;first|done|omega));exact KA
   .have e1:decide ((L:Int)<=z)=false:=nT
    have HE:jX (R=false):=jH (by rw[<-HR.out];unfold zT;dsimp only;first|rfl|(rw[A.out,C.out];simp;first|done|omega));exact KA
  .have Q:((GE:Int)==0)=false:=nT
   have HE:jX (R=false):=jH (by rw[<-HR.out];unfold zT;dsimp only;first|rfl|(rw[A.out,C.out];simp;first|done|omega));exact KA
end
section
open Go.RowKit Go.Maps
def uk:Gd (jP×jP) where
 ev p:=nD #[p.1,p.2]
 R v:=match v with
  | nD cs=>match cs.toList with
   |[a,b]=>U (.held (a,b),[])
   |_=>V
  |_=>V
 lay x:=rfl
 inv v z h:=by
  cases v with
  |agg cs=>
   dsimp only at h;split at h
   .rename_i a b he
    cases h;refine⟨(a,b),?_,rfl⟩;congr 1;apply Array.ext';rw[he]
   .cases h
  |_=>cases h
def KiK:DV jI 3 Int:=intKeys mg
abbrev Ur:ko:=235
def PR(f:FuncId):jP:=.func (.func f) #[] #[]
def kf1:jP×jP:=(PR 228,PR 226)
def kf2:jP×jP:=(PR 229,PR 230)
def kf3:jP×jP:=(PR 232,PR 226)
def kf4:jP×jP:=(PR 233,PR 234)
def kf5:jP×jP:=(PR 236,PR 237)
def PS:List (Int×(jP×jP)):=[(5,kf5),(4,kf4),(3,kf3),(2,kf2),(1,kf1)]
theorem Us(w:jJ):(zeroValue 239).run jI w=.ok (uk.ev (.nilFunc,.nilFunc)) w:=rfl
def xx(w:jJ)(b:Nat):Prop:=qC KiK uk w b 5 PS
theorem xx.look(h:xx w b)(k:Int)(hk:(lI nI k).wf=true)(p:jP×jP)(hp:uF PS k=U p):
  (lW Ur (.map (U b)) (nk nI k) false).run jI w=.ok (nD #[p.1,p.2]) w:=by
 have h1:=qC.look (x:=k) h Tryz.underlying235 Us hk;rw[hp]at h1;exact h1
theorem xx.below(h:xx w b)(hb:jS w.heap.size w w'):xx w' b:=qC.below h hb
theorem M5(w:jJ):jV jI 196 #[] w λe w'=>e=nG (.map (U w.heap.size))/\xx w' w.heap.size/\jS w.heap.size w w':=by
 have aD:=@run_makeMap jI;obtain⟨g,hg⟩:=nV w.heap.size;have N:=qC.made KiK uk w;have I:=(jT w.heap.size w).alloc (jK _) (.map #[] 0);have O:(w.alloc (.map #[] 0)).heap.size=g+1:=by simp[hg]
 rw[hg]at N I;have N:=jH N;have Q:=jH I;rw[hg];clear I;go_in;go_upto_region 2 with fail
 go_wp2_with (first
  |(refine qp (E:=KiK) (F:=uk) (x:=(1:Int)) (y:=kf1) rfl _ _ _ rfl Tryz.underlying235 N rfl rfl (show(lI .i64 1).wf=true by decide) rfl yZ ?_;intro w2 A C;have ai:=jH A;have Y:=jH C;clear A C)
  |(refine qp (E:=KiK) (F:=uk) (x:=(2:Int)) (y:=kf2) rfl _ _ _ rfl Tryz.underlying235 ai rfl rfl (show(lI .i64 2).wf=true by decide) rfl yZ ?_;intro w2 A C;have aj:=jH A;have aa:=jH C;clear A C)
  |(refine qp (E:=KiK) (F:=uk) (x:=(3:Int)) (y:=kf3) rfl _ _ _ rfl Tryz.underlying235 aj rfl rfl (show(lI .i64 3).wf=true by decide) rfl yZ ?_;intro w2 A C;have ak:=jH A;have ae:=jH C;clear A C)
  |(refine qp (E:=KiK) (F:=uk) (x:=(4:Int)) (y:=kf4) rfl _ _ _ rfl Tryz.underlying235 ak rfl rfl (show(lI .i64 4).wf=true by decide) rfl yZ ?_;intro w2 A C;have au:=jH A;have af:=jH C;clear A C)
  |(refine qp (E:=KiK) (F:=uk) (x:=(5:Int)) (y:=kf5) rfl _ _ _ rfl Tryz.underlying235 au rfl rfl (show(lI .i64 5).wf=true by decide) rfl yZ ?_;intro w2 A C;have av:=jH A;have ag:=jH C;clear A C))
 go_returns;have J:∀{a b:jJ},pE g a b->g<=a.heap.size->jS g w a->g<=b.heap.size/\jS g w b:=λah hs hb=>⟨jY hs ah.size,ah.below hb (jK _) hs⟩
 obtain⟨ax,b1⟩:=J Y (by rw[O];exact kV _) Q.out;obtain⟨ay,az⟩:=J aa ax b1;obtain⟨aA,b3⟩:=J ae ay az;obtain⟨aB,b4⟩:=J af aA b3;obtain⟨aF,aC⟩:=J ag aB b4;exact⟨rfl,av.out,aC⟩
def rQ(t:nM TL)(i:Nat):Option (nM TL):=if t.lab.kind=4 then t.sub[0]? else t.sub[i]?
theorem Xg(h:p:=by
 have HQ:=jH ((((hB2.set 0 (nk nI yk)).set 1 (nk nI yz)).set 2 (ny ou un uc)).set 3 (nk nI yl));have PT:=jH ((((hbe.setCell (p:=(Z (g+1) 0 V)) (kV _) (nk nI yk)).setCell (p:=(Z (g+1) 1 V)) (kV _) (nk nI yz)).setCell (p:=(Z (g+1) 2 V)) (kV _) (ny ou un uc)).setCell (p:=(Z (g+1) 3 V)) (kV _) (nk nI yl));clear HW c0 c1 c2 c3 hB1 hB2 hbe;go_wp2_with fail;have d0:=HQ.cell 0;have d1:=HQ.cell 1;have d2:=HQ.cell 2;have d3:=HQ.cell 3;simp only[jL,jQ,jR,jO,jN,jM]at d0 d1 d2 d3;refine jZ (v:=nD #[nk nI yk,nk nI yz,ny ou un uc,nk nI yl]) (by simp[kQ,Tryz.results198,go_sem,d0,d1,d2,d3]) rfl ⟨rfl,PT.out⟩):p:=h
theorem KC(t:nM TL)(i:Nat)(w:jJ)(tv:jP)(av:oQ w tv t.sub)(y:nM TL)(ou:Option lH)(un uc:Nat)(ai:∃b off,(∃n cap,tv=ny (U (Z b off V)) n cap/\(if t.lab.kind=4 then 0 else i)<n/\n<=100000)/\b<w.heap.size/\w.cell? (Z b (off+(if t.lab.kind=4 then 0 else i)*4) V)=U (nk nI y.lab.kind)/\
   w.cell? (Z b (off+(if t.lab.kind=4 then 0 else i)*4+1) V)=U (nk nI y.lab.size)/\w.cell? (Z b (off+(if t.lab.kind=4 then 0 else i)*4+2) V)=U (ny ou un uc)/\w.cell? (Z b (off+(if t.lab.kind=4 then 0 else i)*4+3) V)=U (nk nI y.lab.tail)):
  jV jI 198 #[nD #[nk nI t.lab.kind,nk nI t.lab.size,tv,nk nI t.lab.tail],nk nI i] w λe w'=>e=nG (nD #[nk nI y.lab.kind,nk nI y.lab.size,ny ou un uc,nk nI y.lab.tail])/\jS w.heap.size w w':=by
 obtain⟨b,off,⟨n,cap,rfl,hin,aD⟩,hb,c0,c1,c2,c3⟩:=ai;obtain⟨A,C⟩:=nV ((if t.lab.kind=4 then 0 else i));rw[C]at hin c0 c1 c2 c3;have I:(t.lab.kind=4/\A=0)\/(t.lab.kind≠4/\A=i):=by
  by_cases hk:t.lab.kind=4;.exact .inl ⟨hk,by rw[<-C,if_pos hk]⟩
  .exact .inr ⟨hk,by rw[<-C,if_neg hk]⟩
 clear C av;obtain⟨k,J⟩:=nV t.lab.kind;obtain⟨z,ae⟩:=nV t.lab.size;obtain⟨tl,af⟩:=nV t.lab.tail;obtain⟨yk,N⟩:=nV y.lab.kind;obtain⟨yz,O⟩:=nV y.lab.size;obtain⟨yl,Q⟩:=nV y.lab.tail;rw[J,ae,af,N,O,Q];rw[J]at I;rw[N]at c0;rw[O]at c1;rw[Q]at c3;clear J ae af N O Q;obtain⟨g,hg⟩:=nV w.heap.size;have ag:=nP.new w #[nk nI k,nk nI z,ny (U (Z b off V)) n cap,nk nI tl] EW;have ah:=(jT w.heap.size w).alloc (jK _) (nH #[nk nI k,nk nI z,ny (U (Z b off V)) n cap,nk nI tl] EW);have E:=ah.alloc nS (nH #[nk nI 0,nk nI 0,ny V 0 0,nk nI 0] EW);have aj:(w.alloc (nH #[nk nI k,nk nI z,ny (U (Z b off V)) n cap,nk nI tl] EW)).heap.size=g+1:=by simp[hg]
 have Y:=nP.new (w.alloc (nH #[nk nI k,nk nI z,ny (U (Z b off V)) n cap,nk nI tl] EW)) #[nk nI 0,nk nI 0,ny V 0 0,nk nI 0] EW;rw[aj]at Y;have aa:=ag.alloc (nH #[nk nI 0,nk nI 0,ny V 0 0,nk nI 0] EW);rw[hg]at aa E hb⊢
 have HW:jX (∀W,(w.alloc (nH #[nk nI k,nk nI z,ny (U (Z b off V)) n cap,nk nI tl] EW)).alloc (nH #[nk nI 0,nk nI 0,ny V 0 0,nk nI 0] EW)=W->
   nP W g #[nk nI k,nk nI z,ny (U (Z b off V)) n cap,nk nI tl] EW/\nP W (g+1) #[nk nI 0,nk nI 0,ny V 0 0,nk nI 0] EW/\jS g w W):=jH λW h=>by subst h;exact⟨aa,Y,E⟩
 clear ag Y aa ah E aj;rcases I with⟨rfl,rfl⟩|⟨hk,rfl⟩
 .rw[Nat.zero_mul,Nat.add_zero]at c0 c1 c2 c3
  go_in;go_upto_region 1 with fail;obtain⟨hB1,hB2,hbe⟩:=HW.out _ rfl;generalize (w.alloc _).alloc _=w1 at*;have ak:=jH hbe;have au:=jH hB2;have ax:=hB1.c0;have x2:=hB1.c2;obtain⟨r0,r1,r2,r3,z0,ay,az,z3⟩:=hB2.b4;have aA:=(hbe.cell (p:=(Z b off V)) hb).trans c0;have aB:=(hbe.cell (p:=(Z b (off+1) V)) hb).trans c1;have y2:=(hbe.cell (p:=(Z b (off+2) V)) hb).trans c2;have aC:=(hbe.cell (p:=(Z b (off+3) V)) hb).trans c3;exact Xg
 .have aF:(k==4)=false:=by simp[hk]
  clear hk;go_in;go_upto_region 1 with fail;obtain⟨hB1,hB2,hbe⟩:=HW.out _ rfl;generalize (w.alloc _).alloc _=w1 at*;have ak:=jH hbe;have au:=jH hB2;have ax:=hB1.c0;have x2:=hB1.c2;obtain⟨r0,r1,r2,r3,z0,ay,az,z3⟩:=hB2.b4;have aA:=(hbe.cell (p:=(Z b (off+A*4) V)) hb).trans c0;have aB:=(hbe.cell (p:=(Z b (off+A*4+1) V)) hb).trans c1;have y2:=(hbe.cell (p:=(Z b (off+A*4+2) V)) hb).trans c2;have aC:=(hbe.cell (p:=(Z b (off+A*4+3) V)) hb).trans c3;exact Xg
def rA(t:nM TL)(x:IL)(m:Nat):Bool:=
 if t.lab.kind=1 then zT t.lab x else if t.lab.kind=2 then Bg t.lab x else if t.lab.kind=3 then Bh t.lab x else if t.lab.kind=4 then CK t.lab x m else if t.lab.kind=5 then zU t.lab t.sub.length x m else false
mutual
def um:nM IL->nM TL->Bool
 | .node a s,t=>rA t a s.length&&sP s t 0
def sP:List (nM IL)->nM TL->Nat->Bool
 |[],_,_=>true
 |x::xs,t,i=>(match rQ t i with|some y=>um x y|none=>false)&&sP xs t (i+1)
end
theorem Gt(x:nM IL)(t:nM TL):∀(s:List (nM IL))(i:Nat),sP (s++[x]) t i=(sP s t i&&(match rQ t (i+s.length)with|some y=>um x y|none=>false))
 |[],i=>by simp[sP]
 |y::ys,i=>by
  simp only[List.cons_append,sP];rw[Gt x t ys (i+1),Bool.and_assoc,kF,show i+1+ys.length=i+(ys.length+1)by omega]
theorem PU{s:List (nM IL)}{t:nM TL}{k:Nat}{x:nM IL}{y:nM TL}(h:s[k]? =U x)(A:rQ t k=U y):sP (s.take (k+1)) t 0=(sP (s.take k) t 0&&um x y):=by
 have hlt:=(lF.1 h).1;have hl:(s.take k).length=k:=by rw[mi];omega
 have e:s.take (k+1)=s.take k++[x]:=by rw[mY,h];rfl
 rw[e,Gt,hl,Nat.zero_add,A]
theorem EH{t:nM TL}{x:nM IL}{y:nM TL}:∀{s:List (nM IL)}{k i:Nat},s[k]? =U x->rQ t (i+k)=U y->um x y=false->sP s t i=false
 |[],k,i,h,_,_=>by simp at h
 |z::zs,0,i,h,A,C=>by
  simp at h;subst h;simp only[sP];rw[Nat.add_zero]at A;rw[A];dsimp only;rw[C];rfl
 |z::zs,k+1,i,h,A,C=>by
  simp only[sP];rw[EH (k:=k) (i:=i+1) (by simpa using h) (by rw[<-A];congr 1;omega) C,Bool.and_false]
theorem M6{t:nM TL}{a:IL}{m k:Nat}(E:oK t.lab t.sub=true)(h:rA t a m=true)(I:a.list=true\/m=0)(hk:k<m):∃y,rQ t k=U y/\y∈t.sub:=by
 have A:∀i,i<t.sub.length->∃y,t.sub[i]? =U y/\y∈t.sub:=λi hi=>⟨_,jW hi,List.getElem_mem hi⟩
 unfold oK qA at E;simp only[decide_eq_true_eq]at E;have hl:a.list=true:=I.resolve_right nL;unfold rA at h;unfold rQ;split at h;.simp[zT,hl]at h
 .split at h
  .simp[Bg,hl]at h
  .split at h
   .simp[Bh,hl]at h
   .split at h
    .rename_i C
     rw[if_pos C];exact A 0 nL
    .rename_i C
     rw[if_neg C];split at h
     .simp only[zU,j4,decide_eq_true_eq]at h
      exact A k nL
     .cases h
structure FtE(bo bf bm:Nat)(w:jJ):Prop where
 o:nP w bo #[.map (U bm)] Ur
 m:xx w bm
 f:nP w bf #[.func (.func 197) #[] #[nA (U (Z bo 0 V)),nA (U (Z bf 0 V))]] 108
theorem FtE.below{bo bf bm:Nat}(h:FtE bo bf bm w)(hb:jS w.heap.size w w'):FtE bo bf bm w':=⟨Below.blk hb h.o h.o.lt,h.m.below hb,Below.blk hb h.f h.f.lt⟩
theorem a0X(t:nM TL)(x:IL)(ot oi:Option lH)(m ct ci:Nat)(E:oK t.lab t.sub=true)(C:x.text.length<=j3)(I:m<=100000):
  (t.lab.kind=1/\∀W,jV jI 228 #[nD #[nk nI t.lab.kind,nk nI t.lab.size,ny ot t.sub.length ct,nk nI t.lab.tail],nD #[nz (txt x),nC x.list,ny oi m ci]] W λe w'=>e=nG (nC (rA t x m))/\jS W.heap.size W w')\/
  (t.lab.kind=2/\∀W,jV jI 229 #[nD #[nk nI t.lab.kind,nk nI t.lab.size,ny ot t.sub.length ct,nk nI t.lab.tail],nD #[nz (txt x),nC x.list,ny oi m ci]] W λe w'=>e=nG (nC (rA t x m))/\jS W.heap.size W w')\/
  (t.lab.kind=3/\∀W,jV jI 232 #[nD #[nk nI t.lab.kind,nk nI t.lab.size,ny ot t.sub.length ct,nk nI t.lab.tail],nD #[nz (txt x),nC x.list,ny oi m ci]] W λe w'=>e=nG (nC (rA t x m))/\jS W.heap.size W w')\/
  (t.lab.kind=4/\∀W,jV jI 233 #[nD #[nk nI t.lab.kind,nk nI t.lab.size,ny ot t.sub.length ct,nk nI t.lab.tail],nD #[nz (txt x),nC x.list,ny oi m ci]] W λe w'=>e=nG (nC (rA t x m))/\jS W.heap.size W w')\/
  (t.lab.kind=5/\∀W,jV jI 236 #[nD #[nk nI t.lab.kind,nk nI t.lab.size,ny ot t.sub.length ct,nk nI t.lab.tail],nD #[nz (txt x),nC x.list,ny oi m ci]] W λe w'=>e=nG (nC (rA t x m))/\jS W.heap.size W w'):=by
 unfold oK qA at E;simp only[decide_eq_true_eq]at E;have hk:t.lab.kind=1\/t.lab.kind=2\/t.lab.kind=3\/t.lab.kind=4\/t.lab.kind=5:=nL;have A:∀k,t.lab.kind=k->rA t x m=if k=1 then zT t.lab x else if k=2 then Bg t.lab x else if k=3 then Bh t.lab x else if k=4 then CK t.lab x m else if k=5 then zU t.lab t.sub.length x m else false:=λk h=>by unfold rA;rw[h]
 rcases hk with h|h|h|h|h
 .exact .inl ⟨h,λW=>by rw[A _ h];exact Xf t.lab x _ _ W C⟩
 .exact .inr (.inl ⟨h,λW=>by rw[A _ h];exact Xb t.lab x _ _ W C⟩)
 .exact .inr (.inr (.inl ⟨h,λW=>by rw[A _ h];exact Xc t.lab x _ _ W C⟩))
 .exact .inr (.inr (.inr (.inl ⟨h,λW=>by rw[A _ h];exact Xd t.lab x _ _ t.sub.length m _ _ W nL I nL⟩)))
 .exact .inr (.inr (.inr (.inr (⟨h,λW=>by rw[A _ h];exact Xe t.lab x _ _ t.sub.length m _ _ W nL I nL⟩))))
theorem a0Y(a b:jP)(W:jJ):l7 jI (Instr.field 239 (nD #[a,b]) 0) W=.ok a W:=rfl
end
end Go.Proofs.YtamfcjmhnndbdaaGreatDoor


