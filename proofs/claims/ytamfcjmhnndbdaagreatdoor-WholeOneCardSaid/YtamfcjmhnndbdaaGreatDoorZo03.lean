/- Part 3 of the proof. -/
import Derived.Test.YtamfcjmhnndbdaaGreatDoorZoA
import Derived.Test.YtamfcjmhnndbdaaGreatDoorZo00
import Derived.Test.YtamfcjmhnndbdaaGreatDoorZo02
import Derived.WalkLawsBesides
import Derived.Deep.CutBlock
import Derived.Deep.DeepCutAuto
import Derived.WalkSpells
import Derived.Maps.OwnSet
import Derived.Maps.OwnOps
import Derived.Maps.RangeWalk
import Derived.WalkKit
import Derived.Deep.Slices
import Derived.Deep.Fields
import Derived.ChangeSame
import Derived.Handy
import Derived.Test.YtamfcjmhnndbdaaGreatDoorRows
import Derived.OwnWalk
import Derived.IntWalk
import Derived.Lib.Strings
import Derived.Laws.EntriesVeiled
open Go.Value renaming agg→nI,bool→nH,int→Y,pointer→nG,slice→u,string→G,tuple→nJ
open Go.Obj renaming cells→nL
open Go.IntKind renaming i64→X,u32→nO,u64→nN
open Go.Ending renaming returned→nK,returned→kZ
open Go.Lib renaming hid→H,extract_data→mF
open Go.Proofs.Tryz renaming prog→jy
open Go renaming World→M,Value→jC,Calls→jG,maxLen→jN,bodyPost_ret→jO,TypeId→jX,undef→ku,results→kF,Addr→kW,Oper→lJ,Program→lQ,wpQuiet_nil→l7
open Nat renaming le_refl→jB,le_trans→jM,zero_le→ko,add_assoc→kK,lt_or_ge→kQ,le_succ→kR,lt_succ_self→lF,add_mul→lT,le_of_eq→lZ
open Go.RowKit renaming Below→jD,Hid→jI,intOf→kC
open Go.RowKit.Below renaming refl→jE,heap_setCell→jW
open And renaming intro→jF
open Bool renaming and_eq_true→jJ,false_eq_true→lS
open List renaming getElem?_eq_getElem→jL,getElem?_cons_zero→jS,getElem?_cons_succ→jT,getElem?_toArray→jV,take_succ_cons→jY,length_cons→j4,length_take→kD,mem_of_getElem?→kE,getElem?_eq_some_iff→lu,size_toArray→lK,take_length→lM,mem_cons→l5,map_cons→mf,length_eq_zero_iff→mh,getElem?_take→mK,take_append_drop→mO,mem_of_find?_eq_some→mY
open ByteArray renaming size_extract→jP
open UInt8 renaming ofNat→jU,toNat_inj→lX
open Go.World renaming setCell→j5,cell?_of_block→mX
open Array renaming length_toList→kH
open Go.Instr renaming index→kP,lookup→lV
open Go.Lit renaming int→kY
open Go.Sem renaming run→lL
open Int renaming toNat_of_nonneg→ny
open Option renaming none→V,some→U
open Bool renaming true→R,false→O
open Go.Addr renaming mk→Z
open Decidable renaming decide→At
namespace Go.Proofs.YtamfcjmhnndbdaaGreatDoor
set_option linter.unusedVariables false
set_option linter.defProp false
set_option linter.unusedSimpArgs false
set_option maxRecDepth 100000
set_option maxHeartbeats 8000000
variable {ops:Array lJ}{r:RS}{e:Ending}{fe:FuncId}
section
open Go.RowKit Go.Shelf
def twG(f:List Ax->List Ax)(l:List Ax):Nat->List Ax
 |0=>l
 |n+1=>f (twG f l n)
def MV(l:List Ax):List Ax:=twG We l 2
def S8.Rx(r:S8):r.out.length=32:=rfl
def Gr(l:List Ax):(We l).length=32:=S8.Rx _
def Ct(l:List Ax):(MV l).length=32:=Gr _
def a5p(f:List Ax->List Ax):Prop:=(∀l,(f l).length=32)/\∀(s:An)(w:M),s.size<=100000->
  jG jy 218 #[G s] w λe w'=>e=nK (G ⟨(f s.data.toList).toArray⟩)/\jD w.heap.size w w'
def a6a:a5p We:=⟨Gr,λs w h=>a2W s w h⟩
def Ry(f:List Ax->List Ax)(E:a5p f)(s:An)(w:M)(hs:s.size<=100000):
  jG jy 180 #[G s] w λe w'=>e=nK (G ⟨(twG f s.data.toList 2).toArray⟩)/\jD w.heap.size w w':=by
 obtain⟨l,hl⟩:∃l,l=s.data.toList:=⟨_,rfl⟩;rw[<-hl];have ag:=H hl;have I:=H E;clear hl E;obtain⟨B,hB⟩:=og w.heap.size;have J:=H hB;rw[hB];clear hB;go_in;go_wp2_with fail;go_loopw [0,3] (λv i wr=>∃(k:Nat) (S:An),v=G S/\i=Y X k/\k<=2/\jI (S.data.toList=twG f l k)/\S.size<=100000/\jD B w wr) (λ_ i _=>2 -(kC i).toNat);case atStart=>exact⟨0,s,rfl,rfl,K,ag.symm,hs,J.out▸jE _ _⟩
 case round=>
  obtain⟨k,S,rfl,rfl,hk,N,aa,hb⟩:=hrel;by_cases c:k<2
  .go_wp2_with fail
   refine(I.2 S wr aa).mono ?_;rintro e w1 ⟨rfl,ae⟩;have A:=I.1 S.data.toList;have e1:f S.data.toList=twG f l (k+1):=by rw[N.out];rfl
   rw[e1]at A|-;generalize C:(⟨(twG f l (k+1)).toArray⟩:An)=T;have hsz:T.size<=100000:=by rw[<-C,size_mk,A];decide
   have ah:jI (T.data.toList=twG f l (k+1)):=by rw[<-C];rfl
   clear C A e1;have af:=hb.trans (ae.mono (by have ai:=hb.size;have aj:=J.out;omega));go_wp2_with fail;exact⟨⟨k+1,T,rfl,by go_num,K,ah,hsz,af⟩,by simp[kC];omega⟩
  .obtain rfl:k=2:=K
   go_wp2;go_returns;refine⟨congrArg (λb:An=>kZ (Value.string b)) ?_,hb⟩;apply ByteArray.ext;apply Array.ext';exact N
def Ws(s:An)(w:M)(hs:s.size<=100000):
  jG jy 180 #[G s] w λe w'=>e=nK (G ⟨(MV s.data.toList).toArray⟩)/\jD w.heap.size w w':=
 Ry We a6a s w hs
def checkN(l:List Ax):List Ax:=(MV l).take 4
def Cu(l:List Ax):(checkN l).length=4:=by rw[checkN,kD,Ct];rfl
def Gs(s:An)(w:M)(hs:s.size<=100000):
  jG jy 130 #[G s] w λe w'=>e=nK (G ⟨(checkN s.data.toList).toArray⟩)/\jD w.heap.size w w':=by
 have c1:=H (Ws s w hs);have hl:=Ct s.data.toList;obtain⟨T,C⟩:∃T,T=MV s.data.toList:=⟨_,rfl⟩;have hc:checkN s.data.toList=T.take 4:=by rw[C];rfl
 rw[hc];rw[<-C]at c1 hl;clear hc C;have J:(⟨T.toArray⟩:An).size=32:=by rw[size_mk,hl]
 generalize A:(⟨T.toArray⟩:An)=N at*;have E:=H A;clear A hl;go_in;go_wp2_with fail;refine c1.mono ?_;rintro e w1 ⟨rfl,I⟩;go_wp2;go_returns;refine⟨congrArg (λb:An=>kZ (Value.string b)) ?_,I⟩;rw[<-E.out];apply ByteArray.ext;apply Array.ext';rw[mF];rfl
def Rz(s o:An)(w:M)(hs:s.size<=100000):
  jG jy 141 #[G s,G o] w λe w'=>e=nK (nH (o.toList==(⟨(checkN s.data.toList).toArray⟩:An).toList))/\jD w.heap.size w w':=by
 have c1:=H (Gs s w hs);generalize (⟨(checkN s.data.toList).toArray⟩:An)=C at*;go_in;go_wp2_with fail;refine c1.mono ?_;rintro e w1 ⟨rfl,A⟩;go_wp2;go_returns;exact⟨rfl,A⟩
end
section
open Go.RowKit
def KA(b:Bool)(er:Int):Int:=if b then 0 else er
def uS(b:Bool)(er:Int)(w:M):jG jy 134 #[nH b,Y X er] w λe w'=>e=nK (Y X (KA b er))/\w'=w:=by
 cases b with
 |true=>
  go_in;exact zG
 |false=>
  go_in;exact zG
def O7(s:An)(a b:Int)(A B ps:Nat)(w:M)(c0:w.cell? (Z ps 0 V)=U (G s))(C:a=A)(hb:b=B)(N:A<B)(E:B - A<=8)(hB:B<=s.size)(hs:s.size<=jN):
  jG jy 131 #[Y X a,Y X b,nG (U (Z ps 0 V))] w λe w'=>e=nK (Y nN (pQ (s.extract A B).data.toList))/\w'=w:=by
 subst C hb;have I:(s.extract A B).size=B - A:=by simp[jP];omega
 have J:=H (um (s.extract A B) w K K);clear I E hs;generalize pQ (s.extract A B).data.toList=aa at*;go_in;go_wp2_with fail;refine J.mono ?_;rintro e w2 ⟨rfl,rfl⟩;go_wp2;go_returns;exact⟨rfl,rfl⟩
def MW(x:Int)(ps:Nat)(w:M):jG jy 132 #[Y X x,nG (U (Z ps 0 V))] w
  λe w'=>e=nK (.func (.func 133) #[] #[nG (U (Z ps 0 V)),nG (U (Z w.heap.size 0 V))])/\w'=w.alloc (nL #[Y X x] 3):=by
 obtain⟨W,A⟩:=og (w.alloc (nL #[Y X x] 3));rw[A];obtain⟨g,hg⟩:=og w.heap.size;rw[hg];go_in;go_wp2;go_returns;exact⟨rfl,rfl⟩
def zL(s:An)(x:Int)(ac ps A:Nat)(w:M)(c0:w.cell? (Z ps 0 V)=U (G s))(c1:w.cell? (Z A 0 V)=U (Y X x))(C:x=ac)(hs:s.size<=jN):
  jG jy 133 #[nG (U (Z ps 0 V)),nG (U (Z A 0 V))] w λe w'=>e=nK (Y X (KA (At (ac<=s.size)) 2))/\w'=w:=by
 subst C;have E:=H uS;have hd:At ((ac:Int)<=(s.size:Int))=At (ac<=s.size):=by rw[decide_eq_decide];omega
 have I:=H hd;clear hs hd;go_in;go_wp2_with fail;refine(E _ _ _).mono ?_;rintro e w2 ⟨rfl,rfl⟩;go_wp2;go_returns;exact⟨by rw[<-I.out];rfl,rfl⟩
def RA(s:An)(m:Int)(ps A C:Nat)(w:M)(c0:w.cell? (Z ps 0 V)=U (G s))(h0:ps<w.heap.size)(c1:w.cell? (Z A 0 V)=U (Y nO m))(J:A<w.heap.size)(I:(kY nO m).wf=R)(c2:w.cell? (Z C 0 V)=U (.func (.func 131) #[] #[nG (U (Z ps 0 V))]))(N:C<w.heap.size)(aa:4<=s.size)(hs:s.size<=jN):
  jG jy 135 #[nG (U (Z C 0 V)),nG (U (Z A 0 V))] w λe w'=>e=nK (Y X (KA ((pQ (s.extract 0 4).data.toList:Int)==m) 9))/\jD w.heap.size w w':=by
 have ae:=H (λx:sW w=>(O7 s 0 4 0 4 ps x.at_ ((x.is.cell (p:=(Z ps 0 V)) h0).trans c0) rfl rfl nT nT aa hs).mono λe w' ⟨he,E⟩=>(⟨he,E▸jE _ _⟩:_/\jD x.at_.heap.size x.at_ w'));have af:=H (λ(b:Bool) (x:sW w)=>(uS b 9 x.at_).mono λe w' ⟨he,E⟩=>(⟨he,E▸jE _ _⟩:_/\jD x.at_.heap.size x.at_ w'));have ah:∀x:sW w,x.at_.cell? (Z A 0 V)=U (Y nO m):=λx=>(x.is.cell (p:=(Z A 0 V)) J).trans c1
 have ai:∀x:sW w,x.at_.cell? (Z C 0 V)=U (.func (.func 131) #[] #[nG (U (Z ps 0 V))]):=λx=>(x.is.cell (p:=(Z C 0 V)) N).trans c2
 have hm2:0<=m/\m<=4294967295:=by simpa [Lit.wf,IntKind.min,IntKind.max,IntKind.signed,IntKind.bits]using I
 have ag:IntKind.u64.wrap m=m:=by
  simp only[IntKind.wrap,IntKind.signed,IntKind.bits];exact Int.emod_eq_of_lt hm2.1 K
 generalize pQ (s.extract 0 4).data.toList=aj at*;clear c0 c1 c2 hs I;go_in;go_upto_region 1 with fail;refine oK nV nV ?_;repeat(go_big_quiet_step (first|(go_at_call 131;exact Calls.after (ae _))|(go_at_call 134;exact Calls.after (af _ _))))
 refine l7 ?_;intro x;go_wp2;go_returns;exact⟨rfl,x.is⟩
def vC(s:An):An:=(Dh (s.extract 4 16)).getD ⟨#[]⟩
def tN(s:An):Nat:=pQ (s.extract 16 20).data.toList
def Wt(s N:An)(ps C:Nat)(w:M)(c0:w.cell? (Z ps 0 V)=U (G s))(c1:w.cell? (Z C 0 V)=U (G N))(f1:w.frozen? (Z C 0 V)=O)(ag:16<=s.size)(hs:s.size<=jN):
  jG jy 136 #[nG (U (Z ps 0 V)),nG (U (Z C 0 V))] w λe w'=>e=nK (Y X (KA (Dh (s.extract 4 16)).isSome 3))/\w'=w.setCell (Z C 0 V) (G (vC s)):=by
 have ah:s.size<=9223372036854775807:=by unfold jN at hs;omega
 have A:=a2N (s.extract 4 16) w (by simp[jP];unfold jN at hs|-;omega);unfold IK at A;obtain⟨nm,hn⟩:∃nm,(Dh (s.extract 4 16)).getD ⟨#[]⟩=nm:=⟨_,rfl⟩;have I:vC s=nm:=hn;rw[hn]at A;rw[I];have aa:=H uS;obtain⟨b,hb⟩:=og ((Dh (s.extract 4 16)).isSome);rw[hb]at A|-;obtain⟨er,E⟩:∃er:Int,(if b=R then(0:Int)else 3)=er:=⟨_,rfl⟩;rw[E]at A;have A:=H A;have ae:jI (b=(er==0)):=H (by subst E;cases b<;>rfl);obtain⟨W,J⟩:∃W,w.setCell (Z C 0 V) (G nm)=W:=⟨_,rfl⟩;rw[J];have af:=H J;clear hn I hb E hs J;go_in;go_wp2_with fail;refine A.mono ?_;rintro e w2 ⟨rfl,rfl⟩;go_wp2_with fail;refine(aa _ _ _).mono ?_;rintro e w3 ⟨rfl,rfl⟩;go_wp2;go_returns;exact⟨by rw[ae.out];rfl,af.out⟩
def YW(s:An)(most J:Int)(ps aa A E:Nat)(w:M)(c0:w.cell? (Z ps 0 V)=U (G s))(c2:w.cell? (Z aa 0 V)=U (.func (.func 131) #[] #[nG (U (Z ps 0 V))]))(b1:nU w A #[Y X J] 3)(b3:nU w E #[Y X most] 3)(ae:E≠A)(af:20<=s.size)(hs:s.size<=jN):
  jG jy 138 #[nG (U (Z aa 0 V)),nG (U (Z A 0 V)),nG (U (Z E 0 V))] w λe w'=>e=nK (Y X (KA (At ((tN s:Int)<=most)) 5))/\w'=w.setCell (Z A 0 V) (Y X (tN s)):=by
 have I:jG jy 131 #[Y X 16,Y X 20,nG (U (Z ps 0 V))] w λe w'=>e=nK (Y nN (tN s))/\w'=w:=O7 s 16 20 16 20 ps w c0 rfl rfl nT nT af hs
 have I:=H I;have ah:=H uS;have hlt:tN s<4294967296:=by
  have ag:=sZ (s.extract 16 20).data.toList;have ai:(s.extract 16 20).data.toList.length=4:=by
   rw[kH];show(s.extract 16 20).size=4;rw[jP];omega
  rw[ai]at ag;exact ag
 generalize tN s=N at*;obtain⟨W,C⟩:∃W,w.setCell (Z A 0 V) (Y X (N:Int))=W:=⟨_,rfl⟩;have c4:W.cell? (Z A 0 V)=U (Y X (N:Int)):=by rw[<-C];exact(b1.set 0 _).cell 0
 have c5:W.cell? (Z E 0 V)=U (Y X most):=by rw[<-C];exact(b3.setOther (a:=(Z A 0 V)) ae _).cell 0
 obtain⟨c1,f1⟩:=b1.b1;rw[C];have aj:=H C;clear hs b1 b3;go_in;go_upto_region 1 with fail;clear C;go_wp2_with fail;refine I.mono ?_;rintro e w2 ⟨rfl,rfl⟩;go_upto_region 2 with fail;rw[aj.out];go_wp2_with fail;refine(ah _ _ _).mono ?_;rintro e w3 ⟨rfl,rfl⟩;go_wp2;go_returns;exact⟨rfl,rfl⟩
def Wu(s:An)(N ps A:Nat)(w:M)(c0:w.cell? (Z ps 0 V)=U (G s))(c1:w.cell? (Z A 0 V)=U (Y X (N:Int)))(I:24<=s.size)(hs:s.size<=jN):
  jG jy 139 #[nG (U (Z ps 0 V)),nG (U (Z A 0 V))] w λe w'=>e=nK (Y X (KA (At (24+N<=s.size)) 2))/\w'=w:=by
 have J:s.size<=9223372036854775807:=by unfold jN at hs;omega
 have C:=H uS;have E:jI (At ((N:Int)<=(s.size:Int) - 24)=At (24+N<=s.size)):=H (by rw[decide_eq_decide];omega);clear hs;go_in;go_wp2_with fail;refine(C _ _ _).mono ?_;rintro e w3 ⟨rfl,rfl⟩;go_wp2;go_returns;exact⟨by rw[<-E.out];rfl,rfl⟩
def O8(b o:An):Bool:=o.toList==(⟨(checkN b.data.toList).toArray⟩:An).toList
def YX(s:An)(N ps A:Nat)(w:M)(c0:w.cell? (Z ps 0 V)=U (G s))(h0:ps<w.heap.size)(c1:w.cell? (Z A 0 V)=U (Y X (N:Int)))(E:A<w.heap.size)(aa:24+N<=s.size)(af:N<=100000)(hs:s.size<=jN):
  jG jy 140 #[nG (U (Z ps 0 V)),nG (U (Z A 0 V))] w λe w'=>e=nK (Y X (KA (O8 (s.extract 24 (24+N)) (s.extract 20 24)) 10))/\jD w.heap.size w w':=by
 have ae:s.size<=9223372036854775807:=by unfold jN at hs;omega
 have C:∀x:sW w,jG jy 141 #[G (s.extract 24 (24+N)),G (s.extract 20 24)] x.at_ λe w'=>e=nK (nH (O8 (s.extract 24 (24+N)) (s.extract 20 24)))/\jD x.at_.heap.size x.at_ w':=λx=>Rz (s.extract 24 (24+N)) (s.extract 20 24) x.at_ (by simp[jP];omega)
 have C:=H C;have I:=H (λ(b:Bool) (x:sW w)=>(uS b 10 x.at_).mono λe w' ⟨he,J⟩=>(⟨he,J▸jE _ _⟩:_/\jD x.at_.heap.size x.at_ w'));have ag:∀x:sW w,x.at_.cell? (Z ps 0 V)=U (G s):=λx=>(x.is.cell (p:=(Z ps 0 V)) h0).trans c0
 have ah:∀x:sW w,x.at_.cell? (Z A 0 V)=U (Y X (N:Int)):=λx=>(x.is.cell (p:=(Z A 0 V)) E).trans c1
 generalize O8 (s.extract 24 (24+N)) (s.extract 20 24)=B at*;clear c0 c1 hs;go_in;go_upto_region 1 with fail;refine oK nV nV ?_;repeat(go_big_quiet_step (first|(go_at_call 141;exact Calls.after (C _))|(go_at_call 134;exact Calls.after (I _ _))))
 refine l7 ?_;intro x;go_wp2;go_returns;exact⟨rfl,x.is⟩
structure vS where
 id:Nat
 name:An
 body:An
def xP(ar:Except Nat (vS×Nat))(w:M)(e:Ending)(w':M):Prop:=jD w.heap.size w w'/\match ar with
 | .error er=>e=nK (nJ #[nI #[Y nN 0,G ⟨#[]⟩,G ⟨#[]⟩],Y X 0,Y X (er:Nat)])
 | .ok y=>e=nK (nJ #[nI #[Y nN y.1.id,G y.1.name,G y.1.body],Y X (y.2:Nat),Y X 0])
def zM(s:An)(m most:Int):Nat->Int
 |0=>KA (At (4<=s.size)) 2
 |1=>KA ((pQ (s.extract 0 4).data.toList:Int)==m) 9
 |2=>KA (At (16<=s.size)) 2
 |3=>KA (Dh (s.extract 4 16)).isSome 3
 |4=>KA (At (20<=s.size)) 2
 |5=>KA (At ((tN s:Int)<=most)) 5
 |6=>KA (At (24<=s.size)) 2
 |7=>KA (At (24+tN s<=s.size)) 2
 |8=>KA (O8 (s.extract 24 (24+tN s)) (s.extract 20 24)) 10
 |_=>0
def ym(f:Nat->Int):Nat->Nat->Int
 |0,_=>0
 |n+1,k=>if f k=0 then ym f n (k+1)else f k
def xq{f:Nat->Int}{n k:Nat}(h:f k=0):ym f (n+1) k=ym f n (k+1):=AC h
def vD{f:Nat->Int}{n k:Nat}(h:f k≠0):ym f (n+1) k=f k:=As h
def uT(s:An)(m most:Int):Except Nat (vS×Nat):=
 if ym (zM s m most) 9 0=0 then .ok (⟨0,vC s,s.extract 24 (24+tN s)⟩,24+tN s)else .error (ym (zM s m most) 9 0).toNat
def r9{b:Bool}{er:Int}(he:er≠0)(h:KA b er=0):b=R:=by
 cases b;.exact absurd h (by simpa [KA]using he)
 .rfl
def RB(b:Bool){er:Int}(h:0<=er):0<=KA b er:=by unfold KA;split<;>omega
def rW(s:An)(m most:Int):∀k,0<=zM s m most k:=by
 intro k;unfold zM;split<;>first|exact RB _ nT|exact Int.le_refl _
def O9{f:Nat->Int}(h:∀k,0<=f k):∀n k,0<=ym f n k:=by
 intro n;induction n with
 |zero=>intro k;exact Int.le_refl _
 |succ n A=>intro k;unfold ym;split;exact A _;exact h k
abbrev rq:jX:=52
abbrev QW:jX:=9
abbrev InT:jX:=3
abbrev NuT:jX:=187
def IV(g r:Nat):jC:=.func (.func 133) #[] #[nG (U (Z (g+2) 0 V)),nG (U (Z r 0 V))]
structure Yh(g:Nat)(w0:M)(m most:Int)(s nm:An)(ln:Int)(W:M):Prop where
 bm:nU W g #[Y nO m] 22
 bo:nU W (g+1) #[Y X most] InT
 bs:nU W (g+2) #[G s] QW
 br:nU W (g+3) #[Y nN 0,G ⟨#[]⟩,G ⟨#[]⟩] rq
 bn:nU W (g+4) #[G nm] QW
 bl:nU W (g+5) #[Y X ln] InT
 bf:nU W (g+6) #[.func (.func 131) #[] #[nG (U (Z (g+2) 0 V))]] NuT
 r1:nU W (g+7) #[Y X 4] InT
 r2:nU W (g+8) #[Y X 16] InT
 r3:nU W (g+9) #[Y X 20] InT
 r4:nU W (g+10) #[Y X 24] InT
 ql:jD g w0 W
section
variable {g:Nat}{w0 W:M}{m most ln:Int}{s nm:An}
def Yh.below{A:M}(h:Yh g w0 m most s nm ln W)(hb:jD W.heap.size W A):Yh g w0 m most s nm ln A:=
 ⟨Below.blk hb h.bm h.bm.lt,Below.blk hb h.bo h.bo.lt,Below.blk hb h.bs h.bs.lt,Below.blk hb h.br h.br.lt,Below.blk hb h.bn h.bn.lt,Below.blk hb h.bl h.bl.lt,Below.blk hb h.bf h.bf.lt,
  Below.blk hb h.r1 h.r1.lt,Below.blk hb h.r2 h.r2.lt,Below.blk hb h.r3 h.r3.lt,Below.blk hb h.r4 h.r4.lt,h.ql.trans (hb.mono (Nat.le_of_lt h.bm.lt))⟩
def Yh.a2X(h:Yh g w0 m most s nm ln W)(n2:An):Yh g w0 m most s n2 ln (W.setCell (Z (g+4) 0 V) (G n2)):=
 have o:∀{c:Nat}{cs:Array jC}{t:jX},nU W c cs t->c≠g+4->nU (W.setCell (Z (g+4) 0 V) (G n2)) c cs t:=λh hn=>h.setOther hn _
 ⟨o h.bm K,o h.bo K,o h.bs K,o h.br K,h.bn.set 0 _,o h.bl K,o h.bf K,o h.r1 K,o h.r2 K,o h.r3 K,o h.r4 K,h.ql.setCell (Nat.le_add_right _ _) _⟩
def Yh.C8(h:Yh g w0 m most s nm ln W)(n2:Int):Yh g w0 m most s nm n2 (W.setCell (Z (g+5) 0 V) (Y X n2)):=
 have o:∀{c:Nat}{cs:Array jC}{t:jX},nU W c cs t->c≠g+5->nU (W.setCell (Z (g+5) 0 V) (Y X n2)) c cs t:=λh hn=>h.setOther hn _
 ⟨o h.bm K,o h.bo K,o h.bs K,o h.br K,o h.bn K,h.bl.set 0 _,o h.bf K,o h.r1 K,o h.r2 K,o h.r3 K,o h.r4 K,h.ql.setCell (Nat.le_add_right _ _) _⟩
end
def Uv(g:Nat):Array jC:=#[IV g (g+7),.func (.func 135) #[] #[nG (U (Z (g+6) 0 V)),nG (U (Z g 0 V))],IV g (g+8),
 .func (.func 136) #[] #[nG (U (Z (g+2) 0 V)),nG (U (Z (g+4) 0 V))],IV g (g+9),
 .func (.func 138) #[] #[nG (U (Z (g+6) 0 V)),nG (U (Z (g+5) 0 V)),nG (U (Z (g+1) 0 V))],IV g (g+10),
 .func (.func 139) #[] #[nG (U (Z (g+2) 0 V)),nG (U (Z (g+5) 0 V))],
 .func (.func 140) #[] #[nG (U (Z (g+2) 0 V)),nG (U (Z (g+5) 0 V))]]
abbrev Yi:jX:=191
def xQ{w W:M}{b:Nat}{cs:Array jC}{t:jX}(h:nU w b cs t)(o:Obj)(he:w.alloc o=W):nU W b cs t:=by subst he;exact h.alloc o
def a6b{g:Nat}{w W:M}{m most:Int}{s:An}(hg:w.heap.size=g)(h:(((((((((((w.alloc (nL #[Y nO m] 22)).alloc (nL #[Y X most] InT)).alloc (nL #[G s] QW)).alloc (nL #[Y nN 0,G ⟨#[]⟩,G ⟨#[]⟩] rq)).alloc (nL #[G ⟨#[]⟩] QW)).alloc (nL #[Y X 0] InT)).alloc
   (nL #[.func (.func 131) #[] #[nG (U (Z (g+2) 0 V))]] NuT)).alloc (nL #[Y X 4] InT)).alloc (nL #[Y X 16] InT)).alloc (nL #[Y X 20] InT)).alloc (nL #[Y X 24] InT)).alloc (nL (Uv g) Yi)=W):
  Yh g w m most s ⟨#[]⟩ 0 W/\nU W (g+11) (Uv g) Yi:=by
 obtain⟨ae,e1⟩:=og (w.alloc (nL #[Y nO m] 22));rw[e1]at h;obtain⟨a2,e2⟩:=og (ae.alloc (nL #[Y X most] InT));rw[e2]at h;obtain⟨a3,e3⟩:=og (a2.alloc (nL #[G s] QW));rw[e3]at h;obtain⟨a4,e4⟩:∃a,a3.alloc (nL #[Y nN 0,G ⟨#[]⟩,G ⟨#[]⟩] rq)=a:=⟨_,rfl⟩;rw[e4]at h;obtain⟨a5,e5⟩:∃a,a4.alloc (nL #[G ⟨#[]⟩] QW)=a:=⟨_,rfl⟩;rw[e5]at h;obtain⟨a6,C⟩:=og (a5.alloc (nL #[Y X 0] InT));rw[C]at h;obtain⟨af,E⟩:∃a,a6.alloc (nL #[.func (.func 131) #[] #[nG (U (Z (g+2) 0 V))]] NuT)=a:=⟨_,rfl⟩;rw[E]at h;obtain⟨ag,I⟩:=og (af.alloc (nL #[Y X 4] InT));rw[I]at h;obtain⟨a9,J⟩:=og (ag.alloc (nL #[Y X 16] InT));rw[J]at h;obtain⟨ah,N⟩:=og (a9.alloc (nL #[Y X 20] InT));rw[N]at h;obtain⟨aA,aa⟩:=og (ah.alloc (nL #[Y X 24] InT));rw[aa]at h;have z:∀{ao v:M}{o:Obj}{n:Nat},ao.alloc o=v->ao.heap.size=n->v.heap.size=n+1:=λh hn=>by subst h;simp[hn]
 have ai:=z e1 hg;have aj:=z e2 ai;have z3:=z e3 aj;have z4:=z e4 z3;have z5:=z e5 z4;have ak:=z C z5;have au:=z E ak;have av:=z I au;have z9:=z J av;have ax:=z N z9;have aB:=z aa ax;have nb:∀{ao v:M}{cs:Array jC}{t:jX}{n:Nat},ao.alloc (nL cs t)=v->ao.heap.size=n->nU v n cs t:=λh hn=>by subst h;rw[<-hn];exact nU.new _ _ _
 have u4:=λ{b:Nat} {cs:Array jC} {t:jX} (A:nU aA b cs t)=>xQ A _ h
 have ay:=λ{b:Nat} {cs:Array jC} {t:jX} (A:nU ah b cs t)=>u4 (xQ A _ aa)
 have az:=λ{b:Nat} {cs:Array jC} {t:jX} (A:nU a9 b cs t)=>ay (xQ A _ N)
 have u9:=λ{b:Nat} {cs:Array jC} {t:jX} (A:nU ag b cs t)=>az (xQ A _ J)
 have u8:=λ{b:Nat} {cs:Array jC} {t:jX} (A:nU af b cs t)=>u9 (xQ A _ I)
 have u7:=λ{b:Nat} {cs:Array jC} {t:jX} (A:nU a6 b cs t)=>u8 (xQ A _ E)
 have u6:=λ{b:Nat} {cs:Array jC} {t:jX} (A:nU a5 b cs t)=>u7 (xQ A _ C)
 have u5:=λ{b:Nat} {cs:Array jC} {t:jX} (A:nU a4 b cs t)=>u6 (xQ A _ e5)
 have v4:=λ{b:Nat} {cs:Array jC} {t:jX} (A:nU a3 b cs t)=>u5 (xQ A _ e4)
 have v3:=λ{b:Nat} {cs:Array jC} {t:jX} (A:nU a2 b cs t)=>v4 (xQ A _ e3)
 have v2:=λ{b:Nat} {cs:Array jC} {t:jX} (A:nU ae b cs t)=>v3 (xQ A _ e2)
 refine⟨⟨v2 (nb e1 hg),v3 (nb e2 ai),v4 (nb e3 aj),u5 (nb e4 z3),u6 (nb e5 z4),u7 (nb C z5),u8 (nb E ak),u9 (nb I au),az (nb J av),ay (nb N z9),u4 (nb aa ax),?_⟩,nb h aB⟩;subst h aa N J I E C e5 e4 e3 e2 e1;have q:=λ(ao:M) (aC:g<=ao.heap.size) (b:jD g w ao) (o:Obj)=>b.alloc aC o
 exact q _ K (q _ K (q _ K (q _ K (q _ K (q _ K (q _ K (q _ K (q _ K (q _ K (q _ K (q _ K (jE _ _) _) _) _) _) _) _) _) _) _) _) _) _
def y9(w:M)(g:Nat)(a b c:jC):M:=((w.setCell (Z g 0 V) a).setCell (Z g 1 V) b).setCell (Z g 2 V) c
def rP(w:M)(g:Nat)(a b c:jC):((w.setCell (Z g 0 V) a).setCell (Z g 1 V) b).setCell (Z g 2 V) c=y9 w g a b c:=rfl
def qW{w:M}{g:Nat}{a b c a0 b0 c0:jC}{t:jX}(h:nU w g #[a0,b0,c0] t):nU (y9 w g a b c) g #[a,b,c] t:=((h.set 0 _).set 1 _).set 2 _
def a6c{s:An}{m most E v:Int}{w w':M}(A:ym (zM s m most) 9 0=E)(he:E=v)(C:v≠0)(hn:0<=v)(hb:jD w.heap.size w w'):
  xP (uT s m most) w (nK (nJ #[nI #[Y nN 0,G ⟨#[]⟩,G ⟨#[]⟩],Y X 0,Y X v])) w':=by
 unfold xP uT;rw[A,he,As C];refine⟨hb,?_⟩;dsimp only;rw[ny hn]
def a6d(a0 A a2 a3 a4 a5 a6 C E:jC)(W:M):lL jy (kP Yi (nI #[a0,A,a2,a3,a4,a5,a6,C,E]) (Y X 0)) W=.ok a0 W:=rfl
def a6e(a0 A a2 a3 a4 a5 a6 C E:jC)(W:M):lL jy (kP Yi (nI #[a0,A,a2,a3,a4,a5,a6,C,E]) (Y X 1)) W=.ok A W:=rfl
def a6f(a0 A a2 a3 a4 a5 a6 C E:jC)(W:M):lL jy (kP Yi (nI #[a0,A,a2,a3,a4,a5,a6,C,E]) (Y X 2)) W=.ok a2 W:=rfl
def a6g(a0 A a2 a3 a4 a5 a6 C E:jC)(W:M):lL jy (kP Yi (nI #[a0,A,a2,a3,a4,a5,a6,C,E]) (Y X 3)) W=.ok a3 W:=rfl
def a6h(a0 A a2 a3 a4 a5 a6 C E:jC)(W:M):lL jy (kP Yi (nI #[a0,A,a2,a3,a4,a5,a6,C,E]) (Y X 4)) W=.ok a4 W:=rfl
def a6i(a0 A a2 a3 a4 a5 a6 C E:jC)(W:M):lL jy (kP Yi (nI #[a0,A,a2,a3,a4,a5,a6,C,E]) (Y X 5)) W=.ok a5 W:=rfl
def a6j(a0 A a2 a3 a4 a5 a6 C E:jC)(W:M):lL jy (kP Yi (nI #[a0,A,a2,a3,a4,a5,a6,C,E]) (Y X 6)) W=.ok a6 W:=rfl
def a6k(a0 C a2 a3 a4 a5 a6 A E:jC)(W:M):lL jy (kP Yi (nI #[a0,C,a2,a3,a4,a5,a6,A,E]) (Y X 7)) W=.ok A W:=rfl
def a6l(a0 C a2 a3 a4 a5 a6 E A:jC)(W:M):lL jy (kP Yi (nI #[a0,C,a2,a3,a4,a5,a6,E,A]) (Y X 8)) W=.ok A W:=rfl
def DY{p:Prop}(h:p:=by
 obtain⟨r0,r1,r2,z0,z1,z2⟩:=HI3.br.b3;have HQ:=H (qW (a:=Y nN 0) (b:=G ⟨#[]⟩) (c:=G ⟨#[]⟩) HI3.br);have HBL:jI (jD w.heap.size w (y9 w3 (g+3) (Y nN 0) (G ⟨#[]⟩) (G ⟨#[]⟩))):=H (hg.symm▸(((HI3.ql.setCell (p:=(Z (g+3) 0 V)) (Nat.le_add_right _ _) _).setCell (p:=(Z (g+3) 1 V)) (Nat.le_add_right _ _) _).setCell (p:=(Z (g+3) 2 V)) (Nat.le_add_right _ _) _));go_wp2_with fail;rw[rP];obtain⟨d0,d1,d2⟩:=HQ.a3;refine jO (v:=nJ #[nI #[Y nN 0,G ⟨#[]⟩,G ⟨#[]⟩],Y X 0,Y X v]) (by simp[kF,Tryz.results101,go_sem,d0,d1,d2]) rfl ?_;rw[<-HP.out];exact a6c HE HEV (by simpa using hne) hnn HBL.out):p:=h
def Wv(m most:Int)(s:An)(w:M)(aX:(kY nO m).wf=R)(bu:most<=65536)(hs:s.size<=jN):
  jG jy 101 #[Y nO m,Y X most,G s] w (xP (uT s m most) w):=by
 obtain⟨g,hg⟩:=og w.heap.size;have az:=H MW;have bz:=a6d;have bA:=a6e;have bB:=a6f;have bC:=a6g;have bD:=a6h;have bE:=a6i;have bF:=a6j;have bG:=a6k;have bH:=a6l;have au:=H hs;clear hs;obtain⟨aY,aB⟩:=og (xP (uT s m most) w);have HP:=H aB;rw[aB];clear aB;go_in;go_upto_region 5 with fail;simp only[kK,Nat.reduceAdd];go_wp2_with fail;refine(az _ _ _).mono ?_;rintro e w2 ⟨rfl,rfl⟩;go_wp2_with fail;refine(az _ _ _).mono ?_;rintro e w2 ⟨rfl,rfl⟩;go_wp2_with fail;refine(az _ _ _).mono ?_;rintro e w2 ⟨rfl,rfl⟩;go_wp2_with fail;refine(az _ _ _).mono ?_;rintro e w2 ⟨rfl,rfl⟩;go_upto_region 6 with fail;simp only[kK,Nat.reduceAdd,hg];refine uj (λW=>Yh g w m most s ⟨#[]⟩ 0 W/\nU W (g+11) (Uv g) Yi) (a6b hg rfl) ?_;rintro bK ⟨hI0,aj⟩;have aH:=aj.cell 0;have aI:=aj.cell 1;have aJ:=aj.cell 2;have aK:=aj.cell 3;have aL:=aj.cell 4;have aM:=aj.cell 5;have aN:=aj.cell 6;have aO:=aj.cell 7;have aP:=aj.cell 8;simp only[Uv,IV,jV,jS,jT]at aH aI aJ aK aL aM aN aO aP;have aQ:=H hI0;obtain⟨E,aR⟩:=og (ym (zM s m most) 9 0);have HE:=H aR;clear aj hI0 aR;go_wp2_with fail;go_loopw [34] (λkv aZ=>∃(k:Nat) (nm:An) (ln:Int),kv=Y X (k:Int)/\k<=9/\jI (Yh g w m most s nm ln aZ)/\jI (ym (zM s m most) (9 - k) k=E)/\jI (∀i,i<k->zM s m most i=0)/\jI (3<k->nm=vC s)/\jI (5<k->ln=(tN s:Nat))) (λkv _=>9 -(kC kv).toNat);case atStart=>exact⟨0,_,_,rfl,K,aQ,HE,H (λi hi=>absurd hi K),H (λh=>absurd h K),H (λh=>absurd h K)⟩
 case round=>
  obtain⟨k,nm,ln,rfl,hk,I,af,ag,ak,ax⟩:=hrel;have ai:=H I.br;clear aH aI aJ aK aL aM aN aO aP;by_cases bI:k<9;case neg=>
   obtain rfl:k=9:=K;obtain rfl:=ak.out nT;obtain rfl:=ax.out nT;have aS:jI (E=0):=H af.symm;have bg:24+tN s<=s.size:=of_decide_eq_true (r9 nT (ag 7 nT));have aT:(tN s:Int)<=most:=of_decide_eq_true (r9 nT (ag 5 nT));have ay:jI (xP (uT s m most) w=λe w'=>jD w.heap.size w w'/\e=nK (nJ #[nI #[Y nN 0,G (vC s),G (s.extract 24 (24+tN s))],Y X ((24+tN s:Nat):Int),Y X 0])):=H (by
    unfold xP uT;rw[HE.out,aS.out,AC rfl];rfl)
   obtain⟨N,aU⟩:=og (tN s);obtain⟨aC,aA⟩:=og (vC s);rw[aU]at bg aT I ay;rw[aA]at I ay;have bL:=I.bs.c0;have bM:=I.bn.c0;have bN:=I.bl.c0;obtain⟨r0,r1,r2,z0,z1,z2⟩:=I.br.b3;have bq:N<=65536:=K;clear aU aA ai aT;have HI3:=I;have HBL:jI (jD w.heap.size w (y9 wr (g+3) (Y nN 0) (G aC) (G (s.extract 24 (24+N))))):=H (hg.symm▸(((HI3.ql.setCell (p:=(Z (g+3) 0 V)) (Nat.le_add_right _ _) _).setCell (p:=(Z (g+3) 1 V)) (Nat.le_add_right _ _) _).setCell (p:=(Z (g+3) 2 V)) (Nat.le_add_right _ _) _));have HQ:=H (qW (a:=Y nN 0) (b:=G aC) (c:=G (s.extract 24 (24+N))) HI3.br);go_upto_region 13 with fail;go_big_region;go_wp2_with fail;obtain⟨d0,d1,d2⟩:=HQ.a3;rw[rP];refine jO (v:=nJ #[nI #[Y nN 0,G aC,G (s.extract 24 (24+N))],Y X (24+(N:Int)),Y X 0]) (by simp[kF,Tryz.results101,go_sem,d0,d1,d2]) rfl ?_;rw[<-HP.out,ay.out];exact⟨HBL.drew,nX⟩
  obtain rfl|rfl|rfl|rfl|rfl|rfl|rfl|rfl|rfl:k=0\/k=1\/k=2\/k=3\/k=4\/k=5\/k=6\/k=7\/k=8:=K
  .
   obtain⟨v,A⟩:=og (zM s m most 0);have av:=H A;have hnn:0<=v:=by rw[<-A];exact rW _ _ _ _
   have C:jI (jG jy 133 #[nG (U (Z (g+2) 0 V)),nG (U (Z (g+7) 0 V))] wr λe w'=>e=nK (Y X v)/\w'=wr):=H (by rw[<-A];exact zL s 4 4 (g+2) (g+7) wr (I.bs.cell 0) (I.r1.cell 0) rfl au);by_cases J:v=0
   .subst J
    have aa:jI (ym (zM s m most) (9 - 1) 1=E):=H (by rw[<-af.out];exact(xq A).symm);have ae:jI (∀i,i<1->zM s m most i=0):=H λi hi=>by
     rcases kQ i 0 with h|h
     .exact ag i h
     .obtain rfl:i=0:=K
      exact A
    clear A hnn ai;go_wp2_with fail;refine C.mono ?_;rintro e w3 ⟨rfl,rfl⟩;go_wp2;go_roundw;case rel=>exact⟨1,nm,ln,rfl,K,I,aa,ae,H (λh=>absurd h K),H (λh=>absurd h K)⟩
    case measure=>simp[kC]
   .have hne:(v !=0)=R:=by simp[J]
    have HEV:jI (E=v):=H (by rw[<-af.out];exact(vD (by rw[A];exact J)).trans A);clear A J;go_wp2_with fail;refine C.mono ?_;rintro e w3 ⟨rfl,rfl⟩;have HI3:=I;exact DY
  .
   have aV:4<=s.size:=of_decide_eq_true (r9 nT (ag 0 nT));obtain⟨v,A⟩:=og (zM s m most 1);have av:=H A;have hnn:0<=v:=by rw[<-A];exact rW _ _ _ _
   have C:jI (jG jy 135 #[nG (U (Z (g+6) 0 V)),nG (U (Z g 0 V))] wr λe w'=>e=nK (Y X v)/\jD wr.heap.size wr w'):=H (by rw[<-A];exact RA s m (g+2) g (g+6) wr (I.bs.cell 0) I.bs.lt (I.bm.cell 0) I.bm.lt aX (I.bf.cell 0) I.bf.lt aV au);by_cases J:v=0
   .subst J
    have aa:jI (ym (zM s m most) (9 - 2) 2=E):=H (by rw[<-af.out];exact(xq A).symm);have ae:jI (∀i,i<2->zM s m most i=0):=H λi hi=>by
     rcases kQ i 1 with h|h
     .exact ag i h
     .obtain rfl:i=1:=K
      exact A
    clear A hnn ai;go_wp2_with fail;refine C.mono ?_;rintro e w3 ⟨rfl,ah⟩;have HI3:=H (I.below ah);clear ah;go_wp2;go_roundw;case rel=>exact⟨2,nm,ln,rfl,K,HI3,aa,ae,H (λh=>absurd h K),H (λh=>absurd h K)⟩
    case measure=>simp[kC]
   .have hne:(v !=0)=R:=by simp[J]
    have HEV:jI (E=v):=H (by rw[<-af.out];exact(vD (by rw[A];exact J)).trans A);clear A J;go_wp2_with fail;refine C.mono ?_;rintro e w3 ⟨rfl,ah⟩;have HI3:=H (I.below ah);clear ah;exact DY
  .
   obtain⟨v,A⟩:=og (zM s m most 2);have av:=H A;have hnn:0<=v:=by rw[<-A];exact rW _ _ _ _
   have C:jI (jG jy 133 #[nG (U (Z (g+2) 0 V)),nG (U (Z (g+8) 0 V))] wr λe w'=>e=nK (Y X v)/\w'=wr):=H (by rw[<-A];exact zL s 16 16 (g+2) (g+8) wr (I.bs.cell 0) (I.r2.cell 0) rfl au);by_cases J:v=0
   .subst J
    have aa:jI (ym (zM s m most) (9 - 3) 3=E):=H (by rw[<-af.out];exact(xq A).symm);have ae:jI (∀i,i<3->zM s m most i=0):=H λi hi=>by
     rcases kQ i 2 with h|h
     .exact ag i h
     .obtain rfl:i=2:=K
      exact A
    clear A hnn ai;go_wp2_with fail;refine C.mono ?_;rintro e w3 ⟨rfl,rfl⟩;go_wp2;go_roundw;case rel=>exact⟨3,nm,ln,rfl,K,I,aa,ae,H (λh=>absurd h K),H (λh=>absurd h K)⟩
    case measure=>simp[kC]
   .have hne:(v !=0)=R:=by simp[J]
    have HEV:jI (E=v):=H (by rw[<-af.out];exact(vD (by rw[A];exact J)).trans A);clear A J;go_wp2_with fail;refine C.mono ?_;rintro e w3 ⟨rfl,rfl⟩;have HI3:=I;exact DY
  .
   have aD:16<=s.size:=of_decide_eq_true (r9 nT (ag 2 nT));obtain⟨v,A⟩:=og (zM s m most 3);have av:=H A;have hnn:0<=v:=by rw[<-A];exact rW _ _ _ _
   have C:jI (jG jy 136 #[nG (U (Z (g+2) 0 V)),nG (U (Z (g+4) 0 V))] wr λe w'=>e=nK (Y X v)/\w'=wr.setCell (Z (g+4) 0 V) (G (vC s))):=H (by rw[<-A];exact Wt s nm (g+2) (g+4) wr (I.bs.cell 0) (I.bn.cell 0) (I.bn.free 0) aD au);by_cases J:v=0
   .subst J
    have aa:jI (ym (zM s m most) (9 - 4) 4=E):=H (by rw[<-af.out];exact(xq A).symm);have ae:jI (∀i,i<4->zM s m most i=0):=H λi hi=>by
     rcases kQ i 3 with h|h
     .exact ag i h
     .obtain rfl:i=3:=K
      exact A
    clear A hnn ai;go_wp2_with fail;refine C.mono ?_;rintro e w3 ⟨rfl,rfl⟩;have HI3:=H (I.a2X (vC s));generalize wr.setCell (Z (g+4) 0 V) (G (vC s))=w3 at*;go_wp2;go_roundw;case rel=>exact⟨4,vC s,ln,rfl,K,HI3,aa,ae,H (λh=>rfl),H (λh=>absurd h K)⟩
    case measure=>simp[kC]
   .have hne:(v !=0)=R:=by simp[J]
    have HEV:jI (E=v):=H (by rw[<-af.out];exact(vD (by rw[A];exact J)).trans A);clear A J;go_wp2_with fail;refine C.mono ?_;rintro e w3 ⟨rfl,rfl⟩;have HI3:=H (I.a2X (vC s));generalize wr.setCell (Z (g+4) 0 V) (G (vC s))=w3 at*;exact DY
  .
   obtain⟨v,A⟩:=og (zM s m most 4);have av:=H A;have hnn:0<=v:=by rw[<-A];exact rW _ _ _ _
   have C:jI (jG jy 133 #[nG (U (Z (g+2) 0 V)),nG (U (Z (g+9) 0 V))] wr λe w'=>e=nK (Y X v)/\w'=wr):=H (by rw[<-A];exact zL s 20 20 (g+2) (g+9) wr (I.bs.cell 0) (I.r3.cell 0) rfl au);by_cases J:v=0
   .subst J
    have aa:jI (ym (zM s m most) (9 - 5) 5=E):=H (by rw[<-af.out];exact(xq A).symm);have ae:jI (∀i,i<5->zM s m most i=0):=H λi hi=>by
     rcases kQ i 4 with h|h
     .exact ag i h
     .obtain rfl:i=4:=K
      exact A
    clear A hnn ai;go_wp2_with fail;refine C.mono ?_;rintro e w3 ⟨rfl,rfl⟩;go_wp2;go_roundw;case rel=>exact⟨5,nm,ln,rfl,K,I,aa,ae,H (λh=>ak.out K),H (λh=>absurd h K)⟩
    case measure=>simp[kC]
   .have hne:(v !=0)=R:=by simp[J]
    have HEV:jI (E=v):=H (by rw[<-af.out];exact(vD (by rw[A];exact J)).trans A);clear A J;go_wp2_with fail;refine C.mono ?_;rintro e w3 ⟨rfl,rfl⟩;have HI3:=I;exact DY
  .
   have aF:20<=s.size:=of_decide_eq_true (r9 nT (ag 4 nT));obtain⟨v,A⟩:=og (zM s m most 5);have av:=H A;have hnn:0<=v:=by rw[<-A];exact rW _ _ _ _
   have C:jI (jG jy 138 #[nG (U (Z (g+6) 0 V)),nG (U (Z (g+5) 0 V)),nG (U (Z (g+1) 0 V))] wr λe w'=>e=nK (Y X v)/\w'=wr.setCell (Z (g+5) 0 V) (Y X (tN s:Nat))):=H (by rw[<-A];exact YW s most ln (g+2) (g+6) (g+5) (g+1) wr (I.bs.cell 0) (I.bf.cell 0) I.bl I.bo K aF au);by_cases J:v=0
   .subst J
    have aa:jI (ym (zM s m most) (9 - 6) 6=E):=H (by rw[<-af.out];exact(xq A).symm);have ae:jI (∀i,i<6->zM s m most i=0):=H λi hi=>by
     rcases kQ i 5 with h|h
     .exact ag i h
     .obtain rfl:i=5:=K
      exact A
    clear A hnn ai;go_wp2_with fail;refine C.mono ?_;rintro e w3 ⟨rfl,rfl⟩;have HI3:=H (I.C8 (tN s:Nat));generalize wr.setCell (Z (g+5) 0 V) (Y X (tN s:Nat))=w3 at*;go_wp2;go_roundw;case rel=>exact⟨6,nm,(tN s:Nat),rfl,K,HI3,aa,ae,H (λh=>ak.out K),H (λh=>rfl)⟩
    case measure=>simp[kC]
   .have hne:(v !=0)=R:=by simp[J]
    have HEV:jI (E=v):=H (by rw[<-af.out];exact(vD (by rw[A];exact J)).trans A);clear A J;go_wp2_with fail;refine C.mono ?_;rintro e w3 ⟨rfl,rfl⟩;have HI3:=H (I.C8 (tN s:Nat));generalize wr.setCell (Z (g+5) 0 V) (Y X (tN s:Nat))=w3 at*;exact DY
  .
   obtain⟨v,A⟩:=og (zM s m most 6);have av:=H A;have hnn:0<=v:=by rw[<-A];exact rW _ _ _ _
   have C:jI (jG jy 133 #[nG (U (Z (g+2) 0 V)),nG (U (Z (g+10) 0 V))] wr λe w'=>e=nK (Y X v)/\w'=wr):=H (by rw[<-A];exact zL s 24 24 (g+2) (g+10) wr (I.bs.cell 0) (I.r4.cell 0) rfl au);by_cases J:v=0
   .subst J
    have aa:jI (ym (zM s m most) (9 - 7) 7=E):=H (by rw[<-af.out];exact(xq A).symm);have ae:jI (∀i,i<7->zM s m most i=0):=H λi hi=>by
     rcases kQ i 6 with h|h
     .exact ag i h
     .obtain rfl:i=6:=K
      exact A
    clear A hnn ai;go_wp2_with fail;refine C.mono ?_;rintro e w3 ⟨rfl,rfl⟩;go_wp2;go_roundw;case rel=>exact⟨7,nm,ln,rfl,K,I,aa,ae,H (λh=>ak.out K),H (λh=>ax.out K)⟩
    case measure=>simp[kC]
   .have hne:(v !=0)=R:=by simp[J]
    have HEV:jI (E=v):=H (by rw[<-af.out];exact(vD (by rw[A];exact J)).trans A);clear A J;go_wp2_with fail;refine C.mono ?_;rintro e w3 ⟨rfl,rfl⟩;have HI3:=I;exact DY
  .
   obtain rfl:=ax.out nT;have aG:24<=s.size:=of_decide_eq_true (r9 nT (ag 6 nT));obtain⟨v,A⟩:=og (zM s m most 7);have av:=H A;have hnn:0<=v:=by rw[<-A];exact rW _ _ _ _
   have C:jI (jG jy 139 #[nG (U (Z (g+2) 0 V)),nG (U (Z (g+5) 0 V))] wr λe w'=>e=nK (Y X v)/\w'=wr):=H (by rw[<-A];exact Wu s (tN s) (g+2) (g+5) wr (I.bs.cell 0) (I.bl.cell 0) aG au);by_cases J:v=0
   .subst J
    have aa:jI (ym (zM s m most) (9 - 8) 8=E):=H (by rw[<-af.out];exact(xq A).symm);have ae:jI (∀i,i<8->zM s m most i=0):=H λi hi=>by
     rcases kQ i 7 with h|h
     .exact ag i h
     .obtain rfl:i=7:=K
      exact A
    clear A hnn ai;go_wp2_with fail;refine C.mono ?_;rintro e w3 ⟨rfl,rfl⟩;go_wp2;go_roundw;case rel=>exact⟨8,nm,_,rfl,K,I,aa,ae,H (λh=>ak.out K),H (λh=>rfl)⟩
    case measure=>simp[kC]
   .have hne:(v !=0)=R:=by simp[J]
    have HEV:jI (E=v):=H (by rw[<-af.out];exact(vD (by rw[A];exact J)).trans A);clear A J;go_wp2_with fail;refine C.mono ?_;rintro e w3 ⟨rfl,rfl⟩;have HI3:=I;exact DY
  .
   obtain rfl:=ax.out nT;have aW:24+tN s<=s.size:=of_decide_eq_true (r9 nT (ag 7 nT));have bJ:(tN s:Int)<=most:=of_decide_eq_true (r9 nT (ag 5 nT));obtain⟨v,A⟩:=og (zM s m most 8);have av:=H A;have hnn:0<=v:=by rw[<-A];exact rW _ _ _ _
   have C:jI (jG jy 140 #[nG (U (Z (g+2) 0 V)),nG (U (Z (g+5) 0 V))] wr λe w'=>e=nK (Y X v)/\jD wr.heap.size wr w'):=H (by rw[<-A];exact YX s (tN s) (g+2) (g+5) wr (I.bs.cell 0) I.bs.lt (I.bl.cell 0) I.bl.lt aW K au);by_cases J:v=0
   .subst J
    have aa:jI (ym (zM s m most) (9 - 9) 9=E):=H (by rw[<-af.out];exact(xq A).symm);have ae:jI (∀i,i<9->zM s m most i=0):=H λi hi=>by
     rcases kQ i 8 with h|h
     .exact ag i h
     .obtain rfl:i=8:=K
      exact A
    clear A hnn ai;go_wp2_with fail;refine C.mono ?_;rintro e w3 ⟨rfl,ah⟩;have HI3:=H (I.below ah);clear ah;go_wp2;go_roundw;case rel=>exact⟨9,nm,_,rfl,K,HI3,aa,ae,H (λh=>ak.out K),H (λh=>rfl)⟩
    case measure=>simp[kC]
   .have hne:(v !=0)=R:=by simp[J]
    have HEV:jI (E=v):=H (by rw[<-af.out];exact(vD (by rw[A];exact J)).trans A);clear A J;go_wp2_with fail;refine C.mono ?_;rintro e w3 ⟨rfl,ah⟩;have HI3:=H (I.below ah);clear ah;exact DY
end
section
open Go.RowKit Go.Maps
structure Fq(P:lQ)(k:jX)(κ:Type) where
 kv:κ->jC
 kl:κ->Lit
 ok:κ->Prop
 am:Keyed P k
 lay:∀x,ok x->keyOf P k (kv x)=U (kl x)
 inv:∀v l,keyOf P k v=U l->∃x,v=kv x/\l=kl x
 inj:∀x y,kl x=kl y->x=y
 key:∀x,WideAt.IsKeyLit (kl x)
structure IW(ac:Type) where
 ev:ac->jC
 ar:jC->Option (DataW ac×List MemPlace)
 lay:∀x,ar (ev x)=U (.held x,[])
 inv:∀v z,ar v=U z->∃x,v=ev x/\z=(.held x,[])
section
variable {P:lQ}{k e t:jX}{κ ac:Type}
def qU(E:Fq P k κ)(F:IW ac)(w:M)(b n:Nat)(l:List (κ×ac)):Prop:=
 ∃A,w.ownsMap P k F.ar b n (.map A)/\A.Perm (l.map λp=>(E.kl p.1,.held p.2))/\(l.map Prod.fst).Nodup/\∀p∈l,E.ok p.1
variable {E:Fq P k κ}{F:IW ac}{w:M}{b n:Nat}{l:List (κ×ac)}
def qU.made(E:Fq P k κ)(F:IW ac)(w:M):qU E F (w.alloc (.map #[] 0)) w.heap.size 0 []:=
 ⟨[],World.ownsMap_made w P k F.ar,.refl _,List.nodup_nil,λp hp=>by cases hp⟩
def qU.lt(h:qU E F w b n l):b<w.heap.size:=let ⟨_,h,_⟩:=h;h.lt
def qU.block{w':M}(h:qU E F w b n l)(hb:w'.heap[b]? =w.heap[b]?):qU E F w' b n l:=by
 obtain⟨D,⟨C,A,I,r⟩,J⟩:=h;exact⟨D,⟨C,A,by rw[hb];exact I,r⟩,J⟩
def qU.below{w':M}(h:qU E F w b n l)(hb:jD w.heap.size w w'):qU E F w' b n l:=h.block (hb.block b h.lt)
def qU.up(h:qU E F w b n l){m:Nat}(A:n<=m):qU E F w b m l:=let ⟨D,hD,r⟩:=h;⟨D,hD.mono A,r⟩
def a6m{A:List (Lit×DataW ac)}(C:A.Perm (l.map λp=>(E.kl p.1,.held p.2))){x:κ}{d:DataW ac}(h:(E.kl x,d)∈A):∃y,d=.held y/\(x,y)∈l:=by
 obtain⟨p,hp,he⟩:=List.mem_map.1 (C.mem_iff.1 h);simp only[Prod.mk.injEq]at he;obtain⟨a,y⟩:=p;obtain rfl:a=x:=E.inj _ _ he.1;exact⟨y,he.2.symm,hp⟩
def MX{l:List (κ×ac)}(h:(l.map Prod.fst).Nodup)(f:κ×ac->Bool):((l.filter f).map Prod.fst).Nodup:=h.sublist (List.filter_sublist.map _)
end
section
variable {P:lQ}{k e t:jX}{κ ac:Type}[DecidableEq κ]{E:Fq P k κ}{F:IW ac}{w:M}{b n:Nat}{l:List (κ×ac)}
def vE(l:List (κ×ac))(x:κ):Option ac:=(l.find? λp=>p.1==x).map Prod.snd
def Lf{l:List (κ×ac)}(hn:(l.map Prod.fst).Nodup){x:κ}{y:ac}:vE l x=U y<->(x,y)∈l:=by
 unfold vE;constructor
 .intro h
  obtain⟨p,hp,rfl⟩:=Option.map_eq_some_iff.1 h;have C:=List.find?_some hp;have E:=mY hp;obtain⟨a,b⟩:=p;have:a=x:=by simpa using C
  subst this;exact E
 .intro h
  induction l with
  |nil=>cases h
  |cons p l I=>
   rw[mf,List.nodup_cons]at hn;rw[List.find?_cons];rcases l5.1 h with rfl|h
   .simp
   .have A:(p.1==x)=O:=by
     rw[beq_eq_false_iff_ne];rintro rfl;exact hn.1 (List.mem_map.2 ⟨(p.1,y),h,rfl⟩)
    rw[A];exact I hn.2 h
def Ww{l:List (κ×ac)}{x:κ}:vE l x=V<->x∉l.map Prod.fst:=by
 unfold vE;rw[Option.map_eq_none_iff,List.find?_eq_none,List.mem_map];constructor;.rintro h ⟨p,hp,rfl⟩;exact h p hp nX
 .intro h p hp he;exact h ⟨p,hp,by simpa using he⟩
def qU.at_{A:List (Lit×DataW ac)}(C:A.Perm (l.map λp=>(E.kl p.1,.held p.2)))(hn:(l.map Prod.fst).Nodup)(x:κ)(z:ac):
  (DataW.map A).atKey (E.kl x) (.held z)=.held ((vE l x).getD z)/\Maps.has (.map A) (E.kl x)=(vE l x).isSome:=by
 cases hg:vE l x with
 |none=>
  have I:∀p∈A,p.1.sameKey (E.kl x)=O:=by
   intro p hp;obtain⟨q,aa,rfl⟩:=List.mem_map.1 (C.mem_iff.1 hp);apply sameKey_ne;intro he;exact Ww.1 hg (List.mem_map.2 ⟨q,aa,E.inj _ _ he⟩)
  constructor
  .show(match A.find? (λp=>p.1.sameKey (E.kl x))with|some p=>p.2|none=> .held z)=_
   rw[List.find?_eq_none.2 (λp hp=>by rw[I p hp];decide)];rfl
  .rw[Maps.has_eq]
   rw[Option.isSome_none,List.any_eq_false];intro p hp;rw[I p hp];decide
 |some y=>
  have hin:(E.kl x,DataW.held y)∈A:=C.mem_iff.2 (List.mem_map.2 ⟨(x,y),(Lf hn).1 hg,rfl⟩);constructor
  .show(match A.find? (λp=>p.1.sameKey (E.kl x))with|some p=>p.2|none=> .held z)=_
   cases J:A.find? (λp=>p.1.sameKey (E.kl x))with
   |none=>
    have:=List.find?_eq_none.1 J _ hin;exact absurd (WideAt.sameKey_self (E.key x)) this
   |some p=>
    obtain⟨ae,ah⟩:=p;have af:=List.find?_some J;have ag:=mY J;obtain rfl:ae=E.kl x:=WideAt.sameKey_eq af;obtain⟨ai,rfl,N⟩:=a6m C ag;have:=(Lf hn).2 N;rw[hg]at this;cases this;rfl
  .rw[Maps.has_eq,Option.isSome_some,List.any_eq_true]
   exact⟨_,hin,WideAt.sameKey_self (E.key x)⟩
def qU.look(h:qU E F w b n l)(ht:P.underlying t=U (.map k e)){z:ac}(J:∀w,(zeroValue e).run P w=.ok (F.ev z) w){x:κ}(N:E.ok x):
  (lV t (.map (U b)) (E.kv x) O).run P w=.ok (F.ev ((vE l x).getD z)) w:=by
 obtain⟨ae,aa,C,hn,_⟩:=h;obtain⟨v,ps,A,I⟩:=aa.lookup E.am ht (J w) (F.lay z) (E.lay x N);rw[(qU.at_ C hn x z).1]at I;obtain⟨y,rfl,hy⟩:=F.inv _ _ I;simp only[Prod.mk.injEq,DataW.held.injEq]at hy;rw[A,hy.1]
def qU.look_ok(h:qU E F w b n l)(ht:P.underlying t=U (.map k e)){z:ac}(J:∀w,(zeroValue e).run P w=.ok (F.ev z) w){x:κ}(N:E.ok x):
  (lV t (.map (U b)) (E.kv x) R).run P w=.ok (nJ #[F.ev ((vE l x).getD z),nH (vE l x).isSome]) w:=by
 obtain⟨ae,aa,C,hn,_⟩:=h;obtain⟨v,ps,A,I⟩:=aa.look_ok E.am ht (J w) (F.lay z) (E.lay x N);rw[(qU.at_ C hn x z).1]at I;rw[(qU.at_ C hn x z).2]at A;obtain⟨y,rfl,hy⟩:=F.inv _ _ I;simp only[Prod.mk.injEq,DataW.held.injEq]at hy;rw[A,hy.1]
def RD(x:κ)(l:List (κ×ac)):(l.map λp=>(E.kl p.1,DataW.held p.2)).filter (λp=> !p.1.sameKey (E.kl x))=(l.filter λp=>p.1 !=x).map λp=>(E.kl p.1,DataW.held p.2):=by
 rw[List.filter_map];congr 1;apply List.filter_congr;intro p _;show(!(E.kl p.1).sameKey (E.kl x))=(p.1 !=x);by_cases h:p.1=x;.subst h;rw[WideAt.sameKey_self (E.key _)];simp
 .rw[sameKey_ne (λhe=>h (E.inj _ _ he))];simp[bne,h]
def qU.store(h:qU E F w b n l)(ht:P.underlying t=U (.map k e)){x:κ}(C:E.ok x)(y:ac)(hn:n<jN):
  ∃w',(Instr.mapUpdate t (.map (U b)) (E.kv x) (F.ev y)).run P w=.ok () w'/\qU E F w' b (n+1) ((x,y)::l.filter λp=>p.1 !=x)/\pX b w w':=by
 obtain⟨ae,aa,I,J,hok⟩:=h;obtain⟨w',A,N,hg⟩:=aa.update E.am ht hn (E.lay x C) (F.lay y);refine⟨w',A,⟨_,N,?_,?_,?_⟩,hg⟩
 .refine(Go.WideShapes.insert_perm _ _).trans ?_
  rw[mf];refine List.Perm.cons _ ?_;rw[<-RD];exact I.filter _
 .rw[mf,List.nodup_cons]
  refine⟨?_,MX J _⟩;rw[List.mem_map];rintro⟨p,hp,he⟩;have:=(List.mem_filter.1 hp).2;rw[he]at this;simp at this
 .intro p hp
  rcases l5.1 hp with rfl|hp
  .exact C
  .exact hok p (List.mem_filter.1 hp).1
def yx{rest:List lJ}{o:lJ}{a:Act}{Q:Exit->Act->M->Prop}(hg:o.guard=V)(mo xo C:Operand)(I:o.op=.mapUpdate t mo xo C)(ht:P.underlying t=U (.map k e))(h:qU E F w b n l)(N:a.eval mo=.map (U b)){x:κ}(aa:a.eval xo=E.kv x)(hok:E.ok x){y:ac}(ae:a.eval C=F.ev y)(hn:n<jN)(af:∀w',qU E F w' b (n+1) ((x,y)::l.filter λp=>p.1 !=x)->pX b w w'->wpList P ops Q rest (a.put o.dst ku) w'):wpList P ops Q (o::rest) a w:=by
 refine wpList_plain hg λag J=> ?_
 obtain⟨w',A,r1,r2⟩:=h.store ht hok y hn;unfold Oper.wp;simp[execOp,I,N,aa,ae,A,Result.andThen];exact J _ _ (af w' r1 r2)
end
section
variable {P:lQ}{k:jX}{q:IntKind}
def intKeys(hk:P.underlying k=U (.int q)):Fq P k Int where
 kv:=Y q
 kl:=.int q
 ok x:=(kY q x).wf=R
 am:=int_keyed hk
 lay x hx:=keyOf_int_mk hk hx
 inv v l h:=by obtain⟨x,A,C,_⟩:=Maps.keyOf_int_inv hk h;exact⟨x,A,C⟩
 inj x y h:=(Lit.int.inj h).2
 key x:=trivial
def YY(q:IntKind):IW Int where
 ev:=Y q
 ar v:=match v with| Y A x=>if A=q then U (.held x,[])else V|_=>V
 lay x:=nX
 inv v z h:=by
  cases v<;>simp at h;obtain⟨rfl,rfl⟩:=h;exact⟨_,rfl,rfl⟩
end
section
variable {P:lQ}{k e t:jX}{κ ac:Type}[DecidableEq κ]{E:Fq P k κ}{F:IW ac}{w:M}{b n:Nat}{l:List (κ×ac)}
def qO{rest:List lJ}{o:lJ}{a:Act}{Q:Exit->Act->M->Prop}(hg:o.guard=V)(mo xo C:Operand)(I:o.op=.insert t mo xo C)(ht:P.underlying t=U (.map k e))(h:qU E F w b n l)(N:a.eval mo=.map (U b)){x:κ}(aa:a.eval xo=E.kv x)(hok:E.ok x){y:ac}(ae:a.eval C=F.ev y)(hn:n<jN)(af:∀w',qU E F w' b (n+1) ((x,y)::l.filter λp=>p.1 !=x)->pX b w w'->wpList P ops Q rest (a.put o.dst ku) w'):wpList P ops Q (o::rest) a w:=by
 refine wpList_plain hg λag J=> ?_
 obtain⟨w',A,r1,r2⟩:=h.store ht hok y hn;unfold Oper.wp;simp[execOp,I,N,aa,ae,A,Result.andThen];exact J _ _ (af w' r1 r2)
end
end
section
open Go.RowKit
def ErK:Fq jy 36 Int:=intKeys Tryz.underlying36
def ErE:IW Int:=YY X
def DZ(er:Int):Int:=if er=2 then 3 else er
def Pb(er:Int):(vE [((2:Int),(3:Int))] er).isSome=(er==2)/\(er=2->(vE [((2:Int),(3:Int))] er).getD 0=3):=by
 unfold vE;by_cases h:er=2;.subst h;exact⟨rfl,λ_=>rfl⟩
 .have A:((2:Int)==er)=O:=nY
  simp[List.find?,A,h]
def a2Z(w:M):(zeroValue 36).run jy w=.ok (ErE.ev 0) w:=rfl
def Fs{p:Prop}(h:p:=by
 go_wp2;go_returns;exact⟨by rw[HE.out];rfl,HB.out⟩):p:=h
def KC(er:Int)(w:M)(ak:(kY X er).wf=R):
  jG jy 149 #[Y X er] w λe w'=>e=nK (Y X (DZ er))/\jD w.heap.size w w':=by
 have au:=@run_makeMap jy;obtain⟨g,hg⟩:=og w.heap.size;have ag:=qU.made ErK ErE w;have I:=(jE w.heap.size w).alloc (jB _) (.map #[] 0);rw[hg]at ag I;have ag:=H ag;have ai:=H I;rw[hg];obtain⟨ar,ah⟩:=og (DZ er);have aj:=H ah;rw[ah];clear I ah;go_in;go_upto_region 1 with fail;go_upto_region 2 with(go_loud (refine qO (E:=ErK) (F:=ErE) (x:=(2:Int)) (y:=(3:Int)) rfl _ _ _ rfl Tryz.underlying229 ag rfl rfl (show(kY .i64 2).wf=R by decide) rfl xH ?_);intro w2 J N)
 have HB:jI (jD g w w2):=H (N.below ai (jB _) (by simp[hg]));have A:=qU.look_ok (x:=er) J Tryz.underlying229 a2Z ak;have aa:=(Pb er).1;have ae:=(Pb er).2;have af:((2:Int),(3:Int))::List.filter (λp=>p.1 !=(2:Int)) ([]:List (Int×Int))=[((2:Int),(3:Int))]:=rfl;rw[af,aa]at A;have A:(lV 229 (.map (U g)) (.int .i64 er) R).run jy w2=.ok (.tuple #[.int .i64 ((vE [((2:Int),(3:Int))] er).getD 0),.bool (er==2)]) w2:=A;generalize (vE [((2:Int),(3:Int))] er).getD 0=an at*;by_cases C:er=2
 .have hG:an=3:=ae C
  have hb:(er==2)=R:=by simp[C]
  rw[hb,hG]at A;have HE:jI (ar=3):=H (by rw[<-aj.out];exact AC C);clear J N af ae aa C hb hG;exact Fs
 .have hb:(er==2)=O:=by simp[C]
  rw[hb]at A;have HE:jI (ar=er):=H (by rw[<-aj.out];exact As C);clear J N af ae aa C hb;exact Fs
def Lg:∀(l:List Ax)(i n:Nat),(oC l i n).2.2<=3
 |[],_,_=>by simp[oC]
 |b::r,i,n=>by
  unfold oC;split;.exact jB _
  .split
   .exact ko _
   .exact Lg r _ _
def Lh(r:RS):Prop:=0<=r.f/\r.f<=5
def Lh.take(h:Lh r)(n:Int):Lh (r.take n).1:=by
 refine⟨RS.wo r n h.1,?_⟩;unfold RS.take;split
 .split
  .show(1:Int)<=5;decide
  .split
   .show(2:Int)<=5;decide
   .show(0:Int)<=5;decide
 .exact h.2
def Lh.fail(h:Lh r){x:Int}(h0:0<=x)(A:x<=5):Lh (r.fail x):=by
 refine⟨RS.zH r h0 h.1,?_⟩;unfold RS.fail;split;.exact A
 .exact h.2
def Lh.byte(h:Lh r):Lh r.byte.1:=by
 refine⟨RS.Uk r h.1,?_⟩;unfold RS.byte;split
 .split
  .show(0:Int)<=5;decide
  .show(2:Int)<=5;decide
 .exact h.2
def Lh.elem(h:Lh r)(l:List Ax)(size:Nat):Lh (qQ r l size).1:=by
 have A:∀k v,Lh (rO k v r.byte.1).1:=λk v=>by
  have hb:=h.byte;unfold rO;split
  .split
   .exact hb.take _
   .exact hb
  .split
   .exact hb.take _
   .split
    .exact hb.take _
    .exact hb.take _
 unfold qQ tK;split;.exact A _ _
 .split
  .exact(A _ _).fail nT nT
  .split
   .exact(A _ _).take _
   .exact A _ _
def Lh.run(size:Nat):∀(f:Nat)(r:RS)(l:List Ax),Lh r->Lh (vg size f r l).1
 |0,r,l,h=>h
 |f+1,r,l,h=>by
  unfold vg;split;.exact Lh.run size f _ _ (h.elem l size)
  .exact h
def YZ(s:An)(n:Nat):∀er,y7 s n=.error er->1<=er/\er<=1000:=by
 intro er h;unfold y7 at h;have h0:Lh (vg n (s.size+1) (RS.of s) []).1:=Lh.run n _ _ _ ⟨Int.le_refl _,show(0:Int)<=5 by decide⟩;have A:Lh (if(vg n (s.size+1) (RS.of s) []).2.length<n then(vg n (s.size+1) (RS.of s) []).1.fail 2 else(vg n (s.size+1) (RS.of s) []).1):=by
  split;.exact h0.fail nT nT
  .exact h0
 dsimp only at h;generalize (if(vg n (s.size+1) (RS.of s) []).2.length<n then(vg n (s.size+1) (RS.of s) []).1.fail 2 else(vg n (s.size+1) (RS.of s) []).1)=r at*;obtain⟨a,b⟩:=A;split at h
 .rename_i C
  cases h;omega
 .cases h
def Y0(n:Int)(mt:Option (Nat×MS)):xL n mt<=5:=by
 cases mt with
 |none=>show(0:Int)<=5;decide
 |some x=>
  unfold xL MS.take;dsimp only;split;.show(1:Int)<=5;decide
  .split
   .show(5:Int)<=5;decide
   .show(0:Int)<=5;decide
def Y1(l:List Ax):(tJ l).2.2<=5:=by
 have:=Lg l 0 0;unfold tJ;split
 .split
  .exact jB _
  .omega
 .show(oC l 0 0).2.2<=5;omega
def IX(s:An)(most:Int)(mt:Option (Nat×MS)):∀er,(ry s most mt).1=.error er->1<=er/\er<=1000:=by
 intro er h;have A:=Y1 s.data.toList;unfold ry at h;generalize tJ s.data.toList=t at*;obtain⟨n,k,e⟩:=t;dsimp only at h A;split at h;.cases h;omega
 .split at h
  .cases h;omega
  .have C:=DT n mt
   have E:=Y0 n mt;split at h;.cases h;omega
   .exact YZ _ _ _ h
def Dk(most:Int)(s:An):(o5 most s).body.size<=s.size:=by
 unfold o5;split
 .split
  .exact ko _
  .dsimp only
   split;.simp only[jP];omega
   .exact ko _
 .exact ko _
def uq(most A:Int)(s:An)(mt:Option (Nat×MS)):Except Nat (vS×Nat)×Option (Nat×MS):=
 if(o5 most s).e≠0 then(.error (o5 most s).e,mt)else
 match ry (o5 most s).body A mt with
 |(.error er,m2)=>(.error (DZ (er:Nat)).toNat,m2)
 |(.ok l,m2)=>(.ok (⟨(o5 most s).id,⟨#[]⟩,⟨l.toArray⟩⟩,(o5 most s).n),m2)
def A7(ar:Except Nat (vS×Nat)×Option (Nat×MS))(mt:Option (Nat×MS))(w:M)(e:Ending)(w':M):Prop:=
 w.grownBy w' (oQ mt)/\qb w' ar.2/\match ar.1 with
 | .error er=>e=nK (nJ #[nI #[Y nN 0,G ⟨#[]⟩,G ⟨#[]⟩],Y X 0,Y X (er:Nat)])
 | .ok y=>e=nK (nJ #[nI #[Y nN y.1.id,G y.1.name,G y.1.body],Y X (y.2:Nat),Y X 0])
def A8{mt:Option (Nat×MS)}{w:M}(h:qb w mt):∀x,oQ mt=U x->x<w.heap.size:=λx A=>by
 cases mt with
 |none=>cases A
 |some y=>cases A;exact nU.lt h.1
def D5(s:An)(most:Int)(mt:Option (Nat×MS)):oQ (ry s most mt).2=oQ mt:=by
 unfold ry;split;split;.rfl
 .split
  .rfl
  .split
   .exact IE _ _
   .exact IE _ _
structure Y2(g g2:Nat)(w:M)(mt Km:Option (Nat×MS))(id:Nat)(b:An)(W:M):Prop where
 res:nU W g #[Y nN 0,G ⟨#[]⟩,G ⟨#[]⟩] rq
 fr:nU W g2 #[Y nN id,G ⟨#[]⟩,G b] rq
 mm:qb W Km
 gr:w.grownBy W (oQ mt)
 lt:g<g2
section
variable {g g2:Nat}{w W W':M}{mt Km:Option (Nat×MS)}{id:Nat}{b:An}
def Y2.below(h:Y2 g g2 w mt Km id b W)(hb:jD W.heap.size W W'):Y2 g g2 w mt Km id b W':=
 ⟨Below.blk hb h.res h.res.lt,Below.blk hb h.fr h.fr.lt,h.mm.grown hb,qp h.gr (pG hb),h.lt⟩
def pO{row:Option Nat}{c:Nat}{cs:Array jC}{t:jX}(h:nU W c cs t)(hg:W.grownBy W' row)(A:∀x,row=U x->x≠c):nU W' c cs t:=by
 unfold nU;rw[hg.block c h.lt (λe=>A c e.symm rfl)];exact h
def Y2.grow{m2:Option (Nat×MS)}(h:Y2 g g2 w mt Km id b W)(hg:W.grownBy W' (oQ mt))(C:qb W' m2)(hlt:∀x,oQ mt=U x->x<g):Y2 g g2 w mt m2 id b W':=
 ⟨pO h.res hg (λx A e=>by have:=hlt x A;omega),pO h.fr hg (λx A e=>by have:=hlt x A;have:=h.lt;omega),C,qp h.gr hg,h.lt⟩
def sS{row:Option Nat}{A:M}(h:w.grownBy A row){p:kW}(hp:w.heap.size<=p.block)(v:jC):w.grownBy (A.setCell p v) row:=
 ⟨h.os,h.tape,h.output,by simpa [j5]using h.size,λi hi C=>(jW A p v i K).trans (h.block i hi C)⟩
def yT{A:M}{m:Option (Nat×MS)}(h:qb A m){p:kW}(hp:∀x,oQ m=U x->x≠p.block)(v:jC):qb (A.setCell p v) m:=by
 cases m with
 |none=>trivial
 |some y=>exact⟨nU.setOther h.1 (hp _ rfl) v,h.2⟩
def RF{a b' c:jC}(h:Y2 g g2 w mt Km id b W)(hlt:∀x,oQ Km=U x->x<g)(hg:w.heap.size=g):w.grownBy (y9 W g a b' c) (oQ mt)/\qb (y9 W g a b' c) Km:=
 have q:∀i,∀x,oQ Km=U x->x≠((Z g i V):kW).block:=λi x A e=>by have:=hlt x A;simp at e;omega
 have p:∀i,w.heap.size<=((Z g i V):kW).block:=λi=>lZ hg
 ⟨sS (p:=(Z g 2 V)) (sS (p:=(Z g 1 V)) (sS (p:=(Z g 0 V)) h.gr (p 0) _) (p 1) _) (p 2) _,yT (yT (yT h.mm (q 0) _) (q 1) _) (q 2) _⟩
def Y2.setBody(h:Y2 g g2 w mt Km id b W)(hlt:∀x,oQ Km=U x->x<g)(hg:w.heap.size=g)(A:An):Y2 g g2 w mt Km id A (W.setCell (Z g2 2 V) (G A)):=
 ⟨h.res.setOther (a:=(Z g2 2 V)) (by have:=h.lt;simp;omega) _,h.fr.set 2 _,yT h.mm (λx C e=>by have:=hlt x C;have:=h.lt;simp at e;omega) _,sS h.gr (by have:=h.lt;simp;omega) _,h.lt⟩
end
def Pf(most J:Int)(s:An)(mt:Option (Nat×MS))(w:M)(hs:s.size<=jN)(aZ:-9223372036854775808<=most/\most<=9223372036854775807)(aS:J<=65536)(av:qb w mt):
  jG jy 111 #[Y X most,Y X J,K7 mt,G s] w (A7 (uq most J s mt) mt w):=by
 obtain⟨g,hg⟩:=og w.heap.size;have ax:=(jE w.heap.size w).alloc (jB _) (nL #[Y nN 0,G ⟨#[]⟩,G ⟨#[]⟩] rq);have aK:=H (nU.new w #[Y nN 0,G ⟨#[]⟩,G ⟨#[]⟩] rq);have aL:=H ax;have ay:(w.alloc (nL #[Y nN 0,G ⟨#[]⟩,G ⟨#[]⟩] rq)).heap.size=g+1:=by simp[hg]
 have az:=H (II most s (w.alloc (nL #[Y nN 0,G ⟨#[]⟩,G ⟨#[]⟩] rq)) aZ hs);have aM:=H (qb.grown av ax);have C:=H (hg▸A8 av);obtain⟨ar,ai⟩:=og (uq most J s mt);rw[ai];unfold uq at ai;have aA:(o5 most s).body.size<=jN:=jM (Dk most s) hs;obtain⟨id,bd,n,er,aN⟩:∃id bd n er,o5 most s=⟨id,bd,n,er⟩:=⟨_,_,_,_,rfl⟩;rw[aN]at az ai aA;dsimp only at ai aA;have N:=H ai;have az:jI (jG jy 106 #[Y X most,G s] (w.alloc (nL #[Y nN 0,G ⟨#[]⟩,G ⟨#[]⟩] rq)) λe w'=>e=nK (nJ #[nI #[Y nN id,G ⟨#[]⟩,G bd],Y X (n:Nat),Y X (er:Nat)])/\jD (w.alloc (nL #[Y nN 0,G ⟨#[]⟩,G ⟨#[]⟩] rq)).heap.size (w.alloc (nL #[Y nN 0,G ⟨#[]⟩,G ⟨#[]⟩] rq)) w'):=az;have aO:jI (∀w2 W,jD (g+1) (w.alloc (nL #[Y nN 0,G ⟨#[]⟩,G ⟨#[]⟩] rq)) w2->w2.alloc (nL #[Y nN id,G ⟨#[]⟩,G bd] rq)=W->Y2 g w2.heap.size w mt mt id bd W):=H λw2 W aQ bg=>by
  subst bg;have bq:=aQ.alloc (by rw[<-ay];exact aQ.size) (nL #[Y nN id,G ⟨#[]⟩,G bd] rq);have aB:jD (w.alloc (nL #[Y nN 0,G ⟨#[]⟩,G ⟨#[]⟩] rq)).heap.size (w.alloc (nL #[Y nN 0,G ⟨#[]⟩,G ⟨#[]⟩] rq)) (w2.alloc (nL #[Y nN id,G ⟨#[]⟩,G bd] rq)):=by rw[ay];exact bq
  exact⟨Below.blk aB (hg▸aK.out) K,nU.new _ _ _,aM.grown aB,qp (pG aL) (pG aB),by have:=aQ.size;omega⟩
 clear ax av ai aN aK aL aM;go_in;go_upto_region 1 with fail;generalize w.alloc _=w1 at*;go_wp2_with fail;refine az.mono ?_;rintro e w2 ⟨rfl,aC⟩;rw[ay]at aC;go_upto_region 2 with fail;have ag:=H (aO w2 _ aC rfl);generalize w2.alloc _=w3 at*;generalize w2.heap.size=g2 at*;clear aO aC az;by_cases he:er=0;case neg=>
  have bB:((er:Int) !=0)=R:=by simp[he]
  have aj:jI (ar=(.error er,mt)):=H (by rw[<-N.out,AC he]);clear he N;obtain⟨r0,r1,r2,z0,aT,aU⟩:=ag.res.b3;have aD:=H (qW (a:=Y nN 0) (b:=G ⟨#[]⟩) (c:=G ⟨#[]⟩) ag.res);have A:=H (RF (a:=Y nN 0) (b':=G ⟨#[]⟩) (c:=G ⟨#[]⟩) ag C hg);go_wp2_with fail;rw[rP];obtain⟨aF,aG,aH⟩:=aD.a3;refine jO (v:=nJ #[nI #[Y nN 0,G ⟨#[]⟩,G ⟨#[]⟩],Y X 0,Y X er]) (by simp[kF,Tryz.results111,go_sem,aF,aG,aH]) rfl ?_;rw[aj.out];exact⟨A.1,A.2,rfl⟩
 subst he
 have N:jI (ar=match ry bd J mt with
  |(.error er,m2)=>(.error (DZ (er:Nat)).toNat,m2)
  |(.ok l,m2)=>(.ok (⟨id,⟨#[]⟩,⟨l.toArray⟩⟩,n),m2)):=H (by rw[<-N.out];rfl)
 have ak:=H (OJ bd J mt w3 aA aS ag.mm);have hrow:=D5 bd J mt;have aa:=IX bd J mt;obtain⟨aR,m2,aV⟩:∃aR m2,ry bd J mt=(aR,m2):=⟨_,_,rfl⟩;rw[aV]at ak N hrow aa;have ah:jI (∀x,oQ m2=U x->x<g):=H λx bu=>C.out x (hrow▸bu)
 dsimp only at hrow aa;have aJ:=ag.fr.c2;unfold YI at ak;dsimp only at ak;clear aV hrow;cases aR with
 |error au=>
  have bD:=aa au rfl;have bz:=H (λW=>KC (au:Nat) W (by simp[Lit.wf,IntKind.min,IntKind.max,IntKind.signed,IntKind.bits];omega));have bC:((au:Int) !=0)=R:=nY;have aW:0<=DZ (au:Nat):=by unfold DZ;split<;>omega
  have aj:jI (ar=(.error (DZ (au:Nat)).toNat,m2)):=N;clear N;generalize DZ (au:Nat)=bA at*;clear aa;go_wp2_with fail;refine ak.mono ?_;rintro e w4 ⟨ae,af,rfl⟩;have I:=H (ag.grow ae af C);clear ae af;clear C;have C:=ah;go_wp2_with fail;refine(bz _).mono ?_;rintro e w5 ⟨rfl,aP⟩;have E:=H (I.below aP);clear aP;obtain⟨r0,r1,r2,z0,aT,aU⟩:=E.res.b3;have aD:=H (qW (a:=Y nN 0) (b:=G ⟨#[]⟩) (c:=G ⟨#[]⟩) E.res);have A:=H (RF (a:=Y nN 0) (b':=G ⟨#[]⟩) (c:=G ⟨#[]⟩) E C hg);go_wp2_with fail;rw[rP];obtain⟨aF,aG,aH⟩:=aD.a3;refine jO (v:=nJ #[nI #[Y nN 0,G ⟨#[]⟩,G ⟨#[]⟩],Y X 0,Y X bA]) (by simp[kF,Tryz.results111,go_sem,aF,aG,aH]) rfl ?_;rw[aj.out];exact⟨A.1,A.2,by dsimp only;rw[ny aW]⟩
 |ok l=>
  have aj:jI (ar=(.ok (⟨id,⟨#[]⟩,⟨l.toArray⟩⟩,n),m2)):=N;obtain⟨bl,aI⟩:∃bl:An,(⟨l.toArray⟩:An)=bl:=⟨_,rfl⟩;rw[aI]at aj;simp only[aI]at ak;clear aa aI;go_wp2_with fail;refine ak.mono ?_;rintro e w4 ⟨ae,af,rfl⟩;have I:=H (ag.grow ae af C);clear ae af aJ;have aX:=I.fr.c0;have aY:=I.fr.c1;have aJ:=I.fr.c2;have f2:=I.fr.free 2;have E:=H (I.setBody ah hg bl);clear C;have C:=ah;go_upto_region 8 with fail;generalize w4.setCell (Z g2 2 V) (G bl)=w5 at*;clear aX aY aJ f2;obtain⟨aX,aY,aJ⟩:=E.fr.a3;obtain⟨r0,r1,r2,z0,aT,aU⟩:=E.res.b3;have aD:=H (qW (a:=Y nN id) (b:=G ⟨#[]⟩) (c:=G bl) E.res);have A:=H (RF (a:=Y nN id) (b':=G ⟨#[]⟩) (c:=G bl) E C hg);go_wp2_with fail;rw[rP];obtain⟨aF,aG,aH⟩:=aD.a3;refine jO (v:=nJ #[nI #[Y nN id,G ⟨#[]⟩,G bl],Y X n,Y X 0]) (by simp[kF,Tryz.results111,go_sem,aF,aG,aH]) rfl ?_;rw[aj.out];exact⟨A.1,A.2,rfl⟩
structure oO where
 fmt:Int
 mag:Int
 pV:Int
 qH:Int
 dep:Int
 pq:Int
def oO.cs(c:oO):Array jC:=#[Y X c.fmt,Y nO c.mag,Y X c.pV,Y X c.qH,Y X c.dep,Y X c.pq]
def oO.v(c:oO):jC:=nI c.cs
def oO.wf(c:oO):Prop:=(kY X c.fmt).wf=R/\(kY nO c.mag).wf=R/\(kY X c.pV).wf=R/\(kY X c.qH).wf=R/\(kY X c.dep).wf=R/\(kY X c.pq).wf=R
def within(n most:Int):Bool:=At (1<=n)&&At (n<=most)
def oL(c:oO):Bool:=within c.fmt 3&&within c.pV 65536&&within c.qH 65536&&within c.dep 16&&within c.pq 1024
def p8{c:oO}(h:oL c=R):(1<=c.fmt/\c.fmt<=3)/\(1<=c.pV/\c.pV<=65536)/\(1<=c.qH/\c.qH<=65536)/\(1<=c.dep/\c.dep<=16)/\(1<=c.pq/\c.pq<=1024):=by
 simp only[oL,within,jJ,decide_eq_true_eq]at h;omega
abbrev uk:jX:=24
def wu{w:M}(c:oO){t:jX}:∀W,w.alloc (nL #[Y X c.fmt,Y nO c.mag,Y X c.pV,Y X c.qH,Y X c.dep,Y X c.pq] t)=W->
  jD w.heap.size w W/\W.cell? (Z w.heap.size 0 V)=U (Y X c.fmt)/\W.cell? (Z w.heap.size 1 V)=U (Y nO c.mag)/\W.cell? (Z w.heap.size 2 V)=U (Y X c.pV)/\
   W.cell? (Z w.heap.size 3 V)=U (Y X c.qH)/\W.cell? (Z w.heap.size 4 V)=U (Y X c.dep)/\W.cell? (Z w.heap.size 5 V)=U (Y X c.pq):=by
 rintro W rfl;have hb:=nU.new w #[Y X c.fmt,Y nO c.mag,Y X c.pV,Y X c.qH,Y X c.dep,Y X c.pq] t;exact⟨(jE _ w).alloc (jB _) _,hb.cell 0,hb.cell 1,hb.cell 2,hb.cell 3,hb.cell 4,hb.cell 5⟩
def Pg(n m:Int)(w:M):jG jy 95 #[Y X n,Y X m] w λe w'=>e=nK (nH (within n m))/\w'=w:=by
 by_cases A:1<=n
 .by_cases C:n<=m
  .have HR:jI (within n m=R):=H (by unfold within;rw[decide_eq_true A,decide_eq_true C];rfl)
   exact IJ
  .have HR:jI (within n m=O):=H (by unfold within;rw[decide_eq_true A,decide_eq_false C];rfl)
   exact IJ
 .have HR:jI (within n m=O):=H (by unfold within;rw[decide_eq_false A];rfl)
  exact IJ
def Dl(c:oO)(w:M):jG jy 67 #[c.v] w λe w'=>e=nK (nH (oL c))/\jD w.heap.size w w':=by
 have aa:=H (wu (w:=w) c (t:=uk));have C:=H Pg;obtain⟨g,hg⟩:=og w.heap.size;have I:jI (oL c=(within c.fmt 3&&within c.pV 65536&&within c.qH 65536&&within c.dep 16&&within c.pq 1024)):=H rfl;rw[hg]at aa|-;obtain⟨f,m,fr,ag,ah,ai⟩:=c;unfold oO.v oO.cs;dsimp only at aa I|-;go_in;go_upto_region 1 with fail;generalize w.alloc _=w1 at*;obtain⟨ae,c0,c1,c2,c3,c4,c5⟩:=aa.out _ rfl;have J:=H ae;clear aa ae c1;go_wp2_with fail;refine(C _ _ _).mono ?_;rintro e w2 ⟨rfl,rfl⟩;cases A:within f 3 with
 |false=>
  go_wp2;go_returns;exact⟨by rw[I.out];simp[A],J.out⟩
 |true=>
  go_wp2_with fail;refine(C _ _ _).mono ?_;rintro e w2 ⟨rfl,rfl⟩;cases E:within fr 65536 with
  |false=>
   go_wp2;go_returns;exact⟨by rw[I.out];simp[A,E],J.out⟩
  |true=>
   go_wp2_with fail;refine(C _ _ _).mono ?_;rintro e w2 ⟨rfl,rfl⟩;cases N:within ag 65536 with
   |false=>
    go_wp2;go_returns;exact⟨by rw[I.out];simp[A,E,N],J.out⟩
   |true=>
    go_wp2_with fail;refine(C _ _ _).mono ?_;rintro e w2 ⟨rfl,rfl⟩;cases af:within ah 16 with
    |false=>
     go_wp2;go_returns;exact⟨by rw[I.out];simp[A,E,N,af],J.out⟩
    |true=>
     go_wp2_with fail;refine(C _ _ _).mono ?_;rintro e w2 ⟨rfl,rfl⟩;go_wp2;go_returns;exact⟨by rw[I.out];simp[A,E,N,af],J.out⟩
def Au:Array jC:=#[.nilFunc,.nilFunc,.nilFunc,.nilFunc,.func (.func 97) #[] #[],.func (.func 98) #[] #[],.func (.func 100) #[] #[],.func (.func 102) #[] #[],.func (.func 96) #[] #[],.func (.func 103) #[] #[],.func (.func 105) #[] #[],.func (.func 107) #[] #[],.func (.func 96) #[] #[],.func (.func 108) #[] #[],.func (.func 110) #[] #[],.func (.func 107) #[] #[]]
def D6(w:M):jG jy 68 #[] w λe w'=>e=nK (nI Au)/\jD w.heap.size w w':=by
 have A:=H (nU.new w Au 142);have I:=H ((jE w.heap.size w).alloc (jB _) (nL Au 142));unfold Au at*;go_in;go_wp2_with fail;obtain⟨J,N,aa,ae,d4,d5,d6,af,d8,d9⟩:=A.a10;have d10:=A.cell 10;have d11:=A.cell 11;have C:=A.cell 12;have d13:=A.cell 13;have d14:=A.cell 14;have E:=A.cell 15;simp only[jV,jS,jT]at d10 d11 C d13 d14 E;refine jO (v:=nI #[.nilFunc,.nilFunc,.nilFunc,.nilFunc,.func (.func 97) #[] #[],.func (.func 98) #[] #[],.func (.func 100) #[] #[],.func (.func 102) #[] #[],.func (.func 96) #[] #[],.func (.func 103) #[] #[],.func (.func 105) #[] #[],.func (.func 107) #[] #[],.func (.func 96) #[] #[],.func (.func 108) #[] #[],.func (.func 110) #[] #[],.func (.func 107) #[] #[]]) (by simp[kF,Tryz.results68,go_sem,J,N,aa,ae,d4,d5,d6,af,d8,d9,d10,d11,C,d13,d14,E]) rfl ⟨rfl,I.out⟩
def wX(f:PF):Except Nat (vS×Nat):=if f.e≠0 then .error f.e else .ok (⟨f.id,⟨#[]⟩,f.body⟩,f.n)
def RG{most:Int}{s:An}(h:(o5 most s).e≠0):o5 most s=PF.bad (o5 most s).e:=by
 unfold o5 at*;split
 .rename_i h0
  rw[AC h0]at h;split;.rfl
  .rename_i A
   rw[As A]at h;dsimp only at*;split
   .rename_i C
    rw[AC C]at h;exact absurd rfl h
   .rfl
 .rfl
structure FmI(g:Nat)(w:M)(mt Km:Option (Nat×MS))(W:M):Prop where
 res:nU W (g+1) #[Y nN 0,G ⟨#[]⟩,G ⟨#[]⟩] rq
 mm:qb W Km
 gr:w.grownBy W (oQ mt)
def Dm{g:Nat}{w W:M}{mt Km:Option (Nat×MS)}{a b c:jC}(h:FmI g w mt Km W)(hlt:∀x,oQ Km=U x->x<g)(hg:w.heap.size=g):w.grownBy (y9 W (g+1) a b c) (oQ mt)/\qb (y9 W (g+1) a b c) Km:=
 have q:∀i,∀x,oQ Km=U x->x≠((Z (g+1) i V):kW).block:=λi x A e=>by have:=hlt x A;simp at e;omega
 have p:∀i,w.heap.size<=((Z (g+1) i V):kW).block:=λi=>by rw[hg];exact kR _
 ⟨sS (p:=(Z (g+1) 2 V)) (sS (p:=(Z (g+1) 1 V)) (sS (p:=(Z (g+1) 0 V)) h.gr (p 0) _) (p 1) _) (p 2) _,yT (yT (yT h.mm (q 0) _) (q 1) _) (q 2) _⟩
def Cv{ar:Except Nat (vS×Nat)}{mt:Option (Nat×MS)}{w w':M}(A:qb w mt)(h:xP ar w e w'):A7 (ar,mt) mt w e w':=
 ⟨pG h.1,A.grown h.1,h.2⟩
def Gt(most A:Int)(s:An)(mt:Option (Nat×MS)):oQ (uq most A s mt).2=oQ mt:=by
 have:=D5 (o5 most s).body A mt;unfold uq;split;.rfl
 .split
  .rename_i h;rw[h]at this;exact this
  .rename_i h;rw[h]at this;exact this
def Y3(c:oO)(s:An)(mt:Option (Nat×MS))(w:M)(hs:s.size<=jN)(hc:oL c=R)(az:c.wf)(ai:qb w mt):
  jG jy 100 #[c.v,K7 mt,G s] w (A7 (uT s c.mag c.pV,mt) mt w):=by
 obtain⟨⟨aM,aN⟩,⟨aO,aA⟩,⟨aP,aQ⟩,_,_⟩:=p8 hc;have aF:∃ar,(uT s c.mag c.pV,mt)=ar:=⟨_,rfl⟩;have hrow:oQ (uT s c.mag c.pV,mt).2=oQ mt:=rfl;have A:jI (∀x,oQ ((uT s c.mag c.pV,mt)).2=U x->x<w.heap.size):=H λx aj=>A8 ai x (hrow▸aj)
 have ae:jI (oQ ((uT s c.mag c.pV,mt)).2=oQ mt):=H hrow;have C:∀W,qb W mt->jG jy 101 #[Y nO c.mag,Y X c.pV,G s] W (A7 (uT s c.mag c.pV,mt) mt W):=λ(W:M) (aX:qb W mt)=>(Wv c.mag c.pV s W az.2.1 aA hs).mono λe w' h=>Cv aX h
 obtain⟨ar,aR⟩:=aF;rw[aR]at C A ae|-;have C:=H C;obtain⟨f,m,fr,aa,ag,ah⟩:=c;unfold oO.v oO.cs;dsimp only at*;have aG:=H (wu (w:=w) ⟨f,m,fr,aa,ag,ah⟩ (t:=uk));obtain⟨g,hg⟩:=og w.heap.size;have aB:=H ai;dsimp only at aG;rw[hg]at aG A;clear aR hc ai az hs aM aN aO aA aP aQ hrow
 have aC:jI (∀aH W,w.alloc (nL #[Y X f,Y nO m,Y X fr,Y X aa,Y X ag,Y X ah] uk)=aH->aH.alloc (nL #[Y nN 0,G ⟨#[]⟩,G ⟨#[]⟩] rq)=W->FmI g w mt mt W/\
   W.cell? (Z g 1 V)=U (Y nO m)/\W.cell? (Z g 2 V)=U (Y X fr)/\W.cell? (Z g 3 V)=U (Y X aa)):=H λaH W aY aZ=>by
  subst aY aZ;have aS:=nU.new w #[Y X f,Y nO m,Y X fr,Y X aa,Y X ag,Y X ah] uk;have aT:=(jE w.heap.size w).alloc (jB _) (nL #[Y X f,Y nO m,Y X fr,Y X aa,Y X ag,Y X ah] uk);have ak:=aT.alloc nX (nL #[Y nN 0,G ⟨#[]⟩,G ⟨#[]⟩] rq);have bg:(w.alloc (nL #[Y X f,Y nO m,Y X fr,Y X aa,Y X ag,Y X ah] uk)).heap.size=g+1:=by simp[hg]
  have aD:=nU.new (w.alloc (nL #[Y X f,Y nO m,Y X fr,Y X aa,Y X ag,Y X ah] uk)) #[Y nN 0,G ⟨#[]⟩,G ⟨#[]⟩] rq;rw[bg]at aD;have af:=aS.alloc (nL #[Y nN 0,G ⟨#[]⟩,G ⟨#[]⟩] rq);rw[hg]at af;exact⟨⟨aD,aB.grown ak,pG ak⟩,af.cell 1,af.cell 2,af.cell 3⟩
 go_in;go_upto_region 1 with fail;obtain⟨hI,aU,aV,aW⟩:=aC.out _ _ rfl rfl;generalize (w.alloc _).alloc _=w2 at*;have au:=H hI;clear hI aC aG aB;go_wp2_with fail;refine(C _ au.mm).mono ?_;obtain⟨bq,m2⟩:=ar;dsimp only at A ae;cases bq with
 |error er=>
  rintro e w3 ⟨E,I,rfl⟩;dsimp only at I;have J:jI (FmI g w mt m2 w3):=H ⟨pO au.res E (λx aj e=>by have:=A.out x (ae.out▸aj);omega),I,qp au.gr E⟩;clear E I aU aV aW;obtain⟨r0,r1,r2,z0,bu,bz⟩:=J.res.b3;have aI:=H (qW (a:=Y nN 0) (b:=G ⟨#[]⟩) (c:=G ⟨#[]⟩) J.res);have N:=H (Dm (a:=Y nN 0) (b:=G ⟨#[]⟩) (c:=G ⟨#[]⟩) J A hg);go_wp2_with fail;rw[rP];obtain⟨aJ,aK,aL⟩:=aI.a3;refine jO (v:=nJ #[nI #[Y nN 0,G ⟨#[]⟩,G ⟨#[]⟩],Y X 0,Y X (er:Nat)]) (by simp[kF,Tryz.results100,go_sem,aJ,aK,aL]) rfl ⟨N.1,N.2,rfl⟩
 |ok y=>
  obtain⟨⟨av,ax,ay⟩,fn⟩:=y;rintro e w3 ⟨E,I,rfl⟩;dsimp only at I|-;have J:jI (FmI g w mt m2 w3):=H ⟨pO au.res E (λx aj e=>by have:=A.out x (ae.out▸aj);omega),I,qp au.gr E⟩;clear E I aU aV aW;obtain⟨r0,r1,r2,z0,bu,bz⟩:=J.res.b3;have aI:=H (qW (a:=Y nN av) (b:=G ax) (c:=G ay) J.res);have N:=H (Dm (a:=Y nN av) (b:=G ax) (c:=G ay) J A hg);go_wp2_with fail;rw[rP];obtain⟨aJ,aK,aL⟩:=aI.a3;refine jO (v:=nJ #[nI #[Y nN av,G ax,G ay],Y X (fn:Nat),Y X 0]) (by simp[kF,Tryz.results100,go_sem,aJ,aK,aL]) rfl ⟨N.1,N.2,rfl⟩
def Y4{most:Int}{s:An}(h:e=nK (o5 most s).v):match wX (o5 most s)with
 | .error er=>e=nK (nJ #[nI #[Y nN 0,G ⟨#[]⟩,G ⟨#[]⟩],Y X 0,Y X (er:Nat)])
 | .ok y=>e=nK (nJ #[nI #[Y nN y.1.id,G y.1.name,G y.1.body],Y X (y.2:Nat),Y X 0]):=by
 by_cases h0:(o5 most s).e=0
 .have:wX (o5 most s)=.ok (⟨(o5 most s).id,⟨#[]⟩,(o5 most s).body⟩,(o5 most s).n):=As (by simpa using h0)
  rw[this];dsimp only;rw[h];unfold PF.v yQ;rw[h0];rfl
 .have C:wX (o5 most s)=.error (o5 most s).e:=AC h0
  rw[C];dsimp only;rw[h];have A:=RG h0;generalize o5 most s=q at*;obtain⟨i,b,n,E⟩:=q;unfold PF.bad at A;cases A;rfl
def Wx(c:oO)(s:An)(mt:Option (Nat×MS))(w:M)(hs:s.size<=jN)(hc:oL c=R)(aK:c.wf)(ai:qb w mt):
  jG jy 105 #[c.v,K7 mt,G s] w (A7 (wX (o5 c.pV s),mt) mt w):=by
 obtain⟨⟨aL,aM⟩,⟨aN,aO⟩,⟨aP,aQ⟩,_,_⟩:=p8 hc;have aC:∃ar,(wX (o5 c.pV s),mt)=ar:=⟨_,rfl⟩;have hrow:oQ (wX (o5 c.pV s),mt).2=oQ mt:=rfl;have A:jI (∀x,oQ ((wX (o5 c.pV s),mt)).2=U x->x<w.heap.size):=H λx aj=>A8 ai x (hrow▸aj)
 have ae:jI (oQ ((wX (o5 c.pV s),mt)).2=oQ mt):=H hrow;have C:∀W,qb W mt->jG jy 106 #[Y X c.pV,G s] W (A7 (wX (o5 c.pV s),mt) mt W):=λ(W:M) (aX:qb W mt)=>(II c.pV s W K hs).mono λe w' h=>Cv (ar:=wX (o5 c.pV s)) aX ⟨h.2,Y4 h.1⟩
 obtain⟨ar,aR⟩:=aC;rw[aR]at C A ae|-;have C:=H C;obtain⟨f,m,fr,aa,ag,ah⟩:=c;unfold oO.v oO.cs;dsimp only at*;have aD:=H (wu (w:=w) ⟨f,m,fr,aa,ag,ah⟩ (t:=uk));obtain⟨g,hg⟩:=og w.heap.size;have az:=H ai;dsimp only at aD;rw[hg]at aD A;clear aR hc ai aK hs aL aM aN aO aP aQ hrow
 have aA:jI (∀aF W,w.alloc (nL #[Y X f,Y nO m,Y X fr,Y X aa,Y X ag,Y X ah] uk)=aF->aF.alloc (nL #[Y nN 0,G ⟨#[]⟩,G ⟨#[]⟩] rq)=W->FmI g w mt mt W/\
   W.cell? (Z g 1 V)=U (Y nO m)/\W.cell? (Z g 2 V)=U (Y X fr)/\W.cell? (Z g 3 V)=U (Y X aa)):=H λaF W aY aZ=>by
  subst aY aZ;have aS:=nU.new w #[Y X f,Y nO m,Y X fr,Y X aa,Y X ag,Y X ah] uk;have aT:=(jE w.heap.size w).alloc (jB _) (nL #[Y X f,Y nO m,Y X fr,Y X aa,Y X ag,Y X ah] uk);have ak:=aT.alloc nX (nL #[Y nN 0,G ⟨#[]⟩,G ⟨#[]⟩] rq);have bg:(w.alloc (nL #[Y X f,Y nO m,Y X fr,Y X aa,Y X ag,Y X ah] uk)).heap.size=g+1:=by simp[hg]
  have aB:=nU.new (w.alloc (nL #[Y X f,Y nO m,Y X fr,Y X aa,Y X ag,Y X ah] uk)) #[Y nN 0,G ⟨#[]⟩,G ⟨#[]⟩] rq;rw[bg]at aB;have af:=aS.alloc (nL #[Y nN 0,G ⟨#[]⟩,G ⟨#[]⟩] rq);rw[hg]at af;exact⟨⟨aB,az.grown ak,pG ak⟩,af.cell 1,af.cell 2,af.cell 3⟩
 go_in;go_upto_region 1 with fail;obtain⟨hI,aU,aV,aW⟩:=aA.out _ _ rfl rfl;generalize (w.alloc _).alloc _=w2 at*;have au:=H hI;clear hI aA aD az;go_wp2_with fail;refine(C _ au.mm).mono ?_;obtain⟨bq,m2⟩:=ar;dsimp only at A ae;cases bq with
 |error er=>
  rintro e w3 ⟨E,I,rfl⟩;dsimp only at I;have J:jI (FmI g w mt m2 w3):=H ⟨pO au.res E (λx aj e=>by have:=A.out x (ae.out▸aj);omega),I,qp au.gr E⟩;clear E I aU aV aW;obtain⟨r0,r1,r2,z0,bu,bz⟩:=J.res.b3;have aG:=H (qW (a:=Y nN 0) (b:=G ⟨#[]⟩) (c:=G ⟨#[]⟩) J.res);have N:=H (Dm (a:=Y nN 0) (b:=G ⟨#[]⟩) (c:=G ⟨#[]⟩) J A hg);go_wp2_with fail;rw[rP];obtain⟨aH,aI,aJ⟩:=aG.a3;refine jO (v:=nJ #[nI #[Y nN 0,G ⟨#[]⟩,G ⟨#[]⟩],Y X 0,Y X (er:Nat)]) (by simp[kF,Tryz.results105,go_sem,aH,aI,aJ]) rfl ⟨N.1,N.2,rfl⟩
 |ok y=>
  obtain⟨⟨av,ax,ay⟩,fn⟩:=y;rintro e w3 ⟨E,I,rfl⟩;dsimp only at I|-;have J:jI (FmI g w mt m2 w3):=H ⟨pO au.res E (λx aj e=>by have:=A.out x (ae.out▸aj);omega),I,qp au.gr E⟩;clear E I aU aV aW;obtain⟨r0,r1,r2,z0,bu,bz⟩:=J.res.b3;have aG:=H (qW (a:=Y nN av) (b:=G ax) (c:=G ay) J.res);have N:=H (Dm (a:=Y nN av) (b:=G ax) (c:=G ay) J A hg);go_wp2_with fail;rw[rP];obtain⟨aH,aI,aJ⟩:=aG.a3;refine jO (v:=nJ #[nI #[Y nN av,G ax,G ay],Y X (fn:Nat),Y X 0]) (by simp[kF,Tryz.results105,go_sem,aH,aI,aJ]) rfl ⟨N.1,N.2,rfl⟩
def RH(c:oO)(s:An)(mt:Option (Nat×MS))(w:M)(hs:s.size<=jN)(hc:oL c=R)(aL:c.wf)(ai:qb w mt):
  jG jy 110 #[c.v,K7 mt,G s] w (A7 (uq c.pV c.qH s mt) mt w):=by
 obtain⟨⟨aM,aN⟩,⟨aO,aP⟩,⟨aQ,az⟩,_,_⟩:=p8 hc;have aD:∃ar,(uq c.pV c.qH s mt)=ar:=⟨_,rfl⟩;have hrow:oQ (uq c.pV c.qH s mt).2=oQ mt:=Gt _ _ _ _;have A:jI (∀x,oQ ((uq c.pV c.qH s mt)).2=U x->x<w.heap.size):=H λx aj=>A8 ai x (hrow▸aj)
 have ae:jI (oQ ((uq c.pV c.qH s mt)).2=oQ mt):=H hrow;have C:∀W,qb W mt->jG jy 111 #[Y X c.pV,Y X c.qH,K7 mt,G s] W (A7 (uq c.pV c.qH s mt) mt W):=λ(W:M) (aX:qb W mt)=>Pf c.pV c.qH s mt W hs K az aX
 obtain⟨ar,aR⟩:=aD;rw[aR]at C A ae|-;have C:=H C;obtain⟨f,m,fr,aa,ag,ah⟩:=c;unfold oO.v oO.cs;dsimp only at*;have aF:=H (wu (w:=w) ⟨f,m,fr,aa,ag,ah⟩ (t:=uk));obtain⟨g,hg⟩:=og w.heap.size;have aA:=H ai;dsimp only at aF;rw[hg]at aF A;clear aR hc ai aL hs aM aN aO aP aQ az hrow
 have aB:jI (∀aG W,w.alloc (nL #[Y X f,Y nO m,Y X fr,Y X aa,Y X ag,Y X ah] uk)=aG->aG.alloc (nL #[Y nN 0,G ⟨#[]⟩,G ⟨#[]⟩] rq)=W->FmI g w mt mt W/\
   W.cell? (Z g 1 V)=U (Y nO m)/\W.cell? (Z g 2 V)=U (Y X fr)/\W.cell? (Z g 3 V)=U (Y X aa)):=H λaG W aY aZ=>by
  subst aY aZ;have aS:=nU.new w #[Y X f,Y nO m,Y X fr,Y X aa,Y X ag,Y X ah] uk;have aT:=(jE w.heap.size w).alloc (jB _) (nL #[Y X f,Y nO m,Y X fr,Y X aa,Y X ag,Y X ah] uk);have ak:=aT.alloc nX (nL #[Y nN 0,G ⟨#[]⟩,G ⟨#[]⟩] rq);have bg:(w.alloc (nL #[Y X f,Y nO m,Y X fr,Y X aa,Y X ag,Y X ah] uk)).heap.size=g+1:=by simp[hg]
  have aC:=nU.new (w.alloc (nL #[Y X f,Y nO m,Y X fr,Y X aa,Y X ag,Y X ah] uk)) #[Y nN 0,G ⟨#[]⟩,G ⟨#[]⟩] rq;rw[bg]at aC;have af:=aS.alloc (nL #[Y nN 0,G ⟨#[]⟩,G ⟨#[]⟩] rq);rw[hg]at af;exact⟨⟨aC,aA.grown ak,pG ak⟩,af.cell 1,af.cell 2,af.cell 3⟩
 go_in;go_upto_region 1 with fail;obtain⟨hI,aU,aV,aW⟩:=aB.out _ _ rfl rfl;generalize (w.alloc _).alloc _=w2 at*;have au:=H hI;clear hI aB aF aA;go_wp2_with fail;refine(C _ au.mm).mono ?_;obtain⟨bq,m2⟩:=ar;dsimp only at A ae;cases bq with
 |error er=>
  rintro e w3 ⟨E,I,rfl⟩;dsimp only at I;have J:jI (FmI g w mt m2 w3):=H ⟨pO au.res E (λx aj e=>by have:=A.out x (ae.out▸aj);omega),I,qp au.gr E⟩;clear E I aU aV aW;obtain⟨r0,r1,r2,z0,bu,bz⟩:=J.res.b3;have aH:=H (qW (a:=Y nN 0) (b:=G ⟨#[]⟩) (c:=G ⟨#[]⟩) J.res);have N:=H (Dm (a:=Y nN 0) (b:=G ⟨#[]⟩) (c:=G ⟨#[]⟩) J A hg);go_wp2_with fail;rw[rP];obtain⟨aI,aJ,aK⟩:=aH.a3;refine jO (v:=nJ #[nI #[Y nN 0,G ⟨#[]⟩,G ⟨#[]⟩],Y X 0,Y X (er:Nat)]) (by simp[kF,Tryz.results110,go_sem,aI,aJ,aK]) rfl ⟨N.1,N.2,rfl⟩
 |ok y=>
  obtain⟨⟨av,ax,ay⟩,fn⟩:=y;rintro e w3 ⟨E,I,rfl⟩;dsimp only at I|-;have J:jI (FmI g w mt m2 w3):=H ⟨pO au.res E (λx aj e=>by have:=A.out x (ae.out▸aj);omega),I,qp au.gr E⟩;clear E I aU aV aW;obtain⟨r0,r1,r2,z0,bu,bz⟩:=J.res.b3;have aH:=H (qW (a:=Y nN av) (b:=G ax) (c:=G ay) J.res);have N:=H (Dm (a:=Y nN av) (b:=G ax) (c:=G ay) J A hg);go_wp2_with fail;rw[rP];obtain⟨aI,aJ,aK⟩:=aH.a3;refine jO (v:=nJ #[nI #[Y nN av,G ax,G ay],Y X (fn:Nat),Y X 0]) (by simp[kF,Tryz.results110,go_sem,aI,aJ,aK]) rfl ⟨N.1,N.2,rfl⟩
def pU(c:oO)(s:An)(mt:Option (Nat×MS)):Except Nat (vS×Nat)×Option (Nat×MS):=
 if c.fmt=1 then(uT s c.mag c.pV,mt)else if c.fmt=2 then(wX (o5 c.pV s),mt)else uq c.pV c.qH s mt
def A9(c:oO)(s:An)(mt:Option (Nat×MS)):oQ (pU c s mt).2=oQ mt:=by
 unfold pU;split;.rfl
 .split
  .rfl
  .exact Gt _ _ _ _
def Y5(k:Nat):jC:=if k=1 then .func (.func 100) #[] #[]else if k=2 then .func (.func 105) #[] #[]else .func (.func 110) #[] #[]
structure Li(g:Nat)(c:oO)(w:M)(mt:Option (Nat×MS))(W:M):Prop where
 cf:nU W g #[Y X c.fmt,Y nO c.mag,Y X c.pV,Y X c.qH,Y X c.dep,Y X c.pq] uk
 res:nU W (g+1) #[Y nN 0,G ⟨#[]⟩,G ⟨#[]⟩] rq
 gr:w.grownBy W (oQ mt)
section
variable {g:Nat}{c:oO}{w W W':M}{mt:Option (Nat×MS)}
def Li.s(h:Li g c w mt W):Li g c w mt W/\W.cell? (Z g 0 V)=U (Y X c.fmt)/\W.cell? (Z g 1 V)=U (Y nO c.mag)/\W.cell? (Z g 2 V)=U (Y X c.pV)/\
 W.cell? (Z g 3 V)=U (Y X c.qH)/\W.cell? (Z g 4 V)=U (Y X c.dep)/\W.cell? (Z g 5 V)=U (Y X c.pq):=⟨h,h.cf.cell 0,h.cf.cell 1,h.cf.cell 2,h.cf.cell 3,h.cf.cell 4,h.cf.cell 5⟩
def Li.below(h:Li g c w mt W)(hb:jD W.heap.size W W'):Li g c w mt W':=⟨Below.blk hb h.cf h.cf.lt,Below.blk hb h.res h.res.lt,qp h.gr (pG hb)⟩
def Li.drew(h:Li g c w mt W):Li g c w mt W.drew:=⟨h.cf,h.res,⟨h.gr.os,h.gr.tape,h.gr.output,h.gr.size,h.gr.block⟩⟩
def Li.grow(h:Li g c w mt W)(hg:W.grownBy W' (oQ mt))(hlt:∀x,oQ mt=U x->x<g):Li g c w mt W':=
 ⟨pO h.cf hg (λx A e=>by have:=hlt x A;omega),pO h.res hg (λx A e=>by have:=hlt x A;omega),qp h.gr hg⟩
def Li.put(h:Li g c w mt W){k:Nat}(hk:g+1<k)(A:w.heap.size<=g)(a b d:jC):Li g c w mt (y9 W k a b d):=
 have o:∀{W:M}{n:Nat}{cs:Array jC}{t:jX}(i:Nat)(v:jC),nU W n cs t->n≠k->nU (W.setCell (Z k i V) v) n cs t:=λi v h hn=>h.setOther (a:=(Z k i V)) hn v
 ⟨o 2 _ (o 1 _ (o 0 _ h.cf K) K) K,o 2 _ (o 1 _ (o 0 _ h.res K) K) K, sS (p:=(Z k 2 V)) (sS (p:=(Z k 1 V)) (sS (p:=(Z k 0 V)) h.gr nY _) nY _) nY _⟩
def a3a(h:qb W mt):qb W.drew mt:=by cases mt<;>exact h
end
def Lj{W:M}{c:Nat}{a b d:jC}{t:jX}(h:nU W c #[a,b,d] t):W.cell? (Z c 0 V)=U a/\W.cell? (Z c 1 V)=U b/\W.cell? (Z c 2 V)=U d/\
  W.frozen? (Z c 0 V)=O/\W.frozen? (Z c 1 V)=O/\W.frozen? (Z c 2 V)=O:=⟨h.cell 0,h.cell 1,h.cell 2,h.free 0,h.free 1,h.free 2⟩
structure WnF(g:Nat)(c:oO)(w:M)(mt m2:Option (Nat×MS))(a b d:jC)(k:Nat)(W:M):Prop where
 wn:Li g c w mt W
 fr:nU W k #[a,b,d] rq
 mm:qb W m2
def a3b{g k:Nat}{c:oO}{w W:M}{mt m2:Option (Nat×MS)}{a b d a0 b0 A:jC}(h:Li g c w mt W)(C:nU W k #[a0,b0,A] rq)(hk:g+1<k)(E:w.heap.size<=g)(hlt:∀x,oQ m2=U x->x<g)(I:qb W m2):
  WnF g c w mt m2 a b d k (y9 W k a b d):=
 have q:∀i,∀x,oQ m2=U x->x≠((Z k i V):kW).block:=λi x J e=>by have:=hlt x J;simp at e;omega
 ⟨h.put hk E a b d,qW C,yT (yT (yT I (q 0) _) (q 1) _) (q 2) _⟩
def Fu(c:oO)(s:An)(mt:Option (Nat×MS)):∀er,(pU c s mt).1=.error er->1<=er:=by
 intro er h;unfold pU at h;split at h
 .dsimp only at h
  unfold uT at h;have hn:=O9 (rW s c.mag c.pV) 9 0;split at h;.cases h
  .rename_i h0;cases h;omega
 .split at h
  .dsimp only at h
   unfold wX at h;split at h;.rename_i h0;cases h;omega
   .cases h
  .unfold uq at h
   split at h;.rename_i h0;cases h;omega
   .split at h
    .rename_i e m2 A
     have C:=IX _ _ _ e (by rw[A]);cases h;unfold DZ;split<;>omega
    .cases h
def Ph(c:oO)(k:Nat)(hk:c.fmt=k)(s:An)(mt:Option (Nat×MS))(w:M)(hs:s.size<=jN)(hc:oL c=R)(A:c.wf)(C:qb w mt):
  ∃f,Y5 k=.func (.func f) #[] #[]/\jG jy f #[c.v,K7 mt,G s] w (A7 (pU c s mt) mt w):=by
 have E:=(p8 hc).1;obtain rfl|rfl|rfl:k=1\/k=2\/k=3:=K
 .have:pU c s mt=(uT s c.mag c.pV,mt):=AC hk
  rw[this];exact⟨_,rfl,Y3 c s mt w hs hc A C⟩
 .have:pU c s mt=(wX (o5 c.pV s),mt):=by unfold pU;rw[As K,AC K]
  rw[this];exact⟨_,rfl,Wx c s mt w hs hc A C⟩
 .have:pU c s mt=uq c.pV c.qH s mt:=by unfold pU;rw[As K,As K]
  rw[this];exact⟨_,rfl,RH c s mt w hs hc A C⟩
def Uw(W:M):lL jy (kP 142 (nI Au) (Y X 1)) W=.ok (nI #[.func (.func 97) #[] #[],.func (.func 98) #[] #[],.func (.func 100) #[] #[],.func (.func 102) #[] #[]]) W:=rfl
def Ux(W:M):lL jy (kP 142 (nI Au) (Y X 2)) W=.ok (nI #[.func (.func 96) #[] #[],.func (.func 103) #[] #[],.func (.func 105) #[] #[],.func (.func 107) #[] #[]]) W:=rfl
def Uy(W:M):lL jy (kP 142 (nI Au) (Y X 3)) W=.ok (nI #[.func (.func 96) #[] #[],.func (.func 108) #[] #[],.func (.func 110) #[] #[],.func (.func 107) #[] #[]]) W:=rfl
def RI(a b c d:jC)(W:M):lL jy (Instr.field 141 (nI #[a,b,c,d]) 2) W=.ok c W:=rfl
end
section
open Go.RowKit Go.ChangeShapes Go.WideShapes Go.Deep
inductive nS(α:Type) where
 |node (a:α) (sub:List (nS α))
section
variable {α:Type}
mutual
def nS.count:nS α->Nat
 | .node _ s=>1+nS.oz s
def nS.oz:List (nS α)->Nat
 |[]=>0
 |x::xs=>nS.count x+nS.oz xs
end
mutual
def nS.deep:nS α->Nat
 | .node _ s=>nS.pz s+1
def nS.pz:List (nS α)->Nat
 |[]=>0
 |x::xs=>max (nS.deep x) (nS.pz xs)
end
mutual
def nS.all(p:α->List (nS α)->Bool):nS α->Bool
 | .node a s=>p a s&&nS.pF p s
def nS.pF(p:α->List (nS α)->Bool):List (nS α)->Bool
 |[]=>R
 |x::xs=>nS.all p x&&nS.pF p xs
end
mutual
def nS.same(eq:α->α->Bool):nS α->nS α->Bool
 | .node a s,.node b t=>eq a b&&nS.uu eq s t
def nS.uu(eq:α->α->Bool):List (nS α)->List (nS α)->Bool
 |[],[]=>R
 |x::xs,y::ys=>nS.same eq x y&&nS.uu eq xs ys
 |_,_=>O
end
def nS.lab:nS α->α| .node a _=>a
def nS.sub:nS α->List (nS α)| .node _ s=>s
@[simp] theorem nS.o9 (a:α) (s:List (nS α)):(nS.node a s).lab=a:=rfl
@[simp] theorem nS.rE (a:α) (s:List (nS α)):(nS.node a s).sub=s:=rfl
def nS.eta(x:nS α): .node x.lab x.sub=x:=by cases x;rfl
mutual
def nS.a8E{P:nS α->Prop}(h:∀a s,(∀x,x∈s->P x)->P (.node a s)):∀x,P x
 | .node a s=>h a s (nS.a8F h s)
def nS.a8F{P:nS α->Prop}(h:∀a s,(∀x,x∈s->P x)->P (.node a s)):∀(s:List (nS α))(x:nS α),x∈s->P x
 |[],_,A=>by cases A
 |y::ys,x,A=>by
  rcases l5.1 A with C|C
  .exact C▸nS.a8E h y
  .exact nS.a8F h ys x C
end
def nS.ind{P:nS α->Prop}(h:∀a s,(∀x,x∈s->P x)->P (.node a s))(x:nS α):P x:=nS.a8E h x
def nS.za(x:nS α):0<x.count:=by cases x;simp only[nS.count];omega
def nS.IY(x:nS α):0<x.deep:=by cases x;simp only[nS.deep];omega
def nS.sU(s t:List (nS α)):nS.oz (s++t)=nS.oz s+nS.oz t:=by
 induction s with
 |nil=>simp[nS.oz]
 |cons x xs A=>simp[nS.oz,A,kK]
def nS.Dn{s:List (nS α)}{x:nS α}(h:x∈s):x.count<=nS.oz s:=by
 induction s with
 |nil=>cases h
 |cons y ys C=>
  simp only[nS.oz];rcases l5.1 h with A|A
  .subst A;omega
  .have:=C A;omega
def nS.yA{s:List (nS α)}{i:Nat}{x:nS α}(h:s[i]? =U x):nS.oz (s.take (i+1))=nS.oz (s.take i)+x.count:=by
 rw[List.take_add_one,h];simp[nS.sU,nS.oz]
def nS.xR(s:List (nS α))(i:Nat):nS.oz (s.take i)<=nS.oz s:=by
 conv=>rhs;rw[<-mO i s,nS.sU]
 omega
def nS.tY(s:List (nS α)):s.length<=nS.oz s:=by
 induction s with
 |nil=>simp
 |cons x xs A=>simp only[nS.oz,j4];have:=nS.za x;omega
def nS.xu(s t:List (nS α)):nS.pz (s++t)=max (nS.pz s) (nS.pz t):=by
 induction s with
 |nil=>simp[nS.pz]
 |cons x xs A=>simp[nS.pz,A,Nat.max_assoc]
def nS.zN{s:List (nS α)}{i:Nat}{x:nS α}(h:s[i]? =U x):nS.pz (s.take (i+1))=max (nS.pz (s.take i)) x.deep:=by
 rw[List.take_add_one,h];simp[nS.xu,nS.pz]
def nS.Ba(p:α->List (nS α)->Bool)(s t:List (nS α)):nS.pF p (s++t)=(nS.pF p s&&nS.pF p t):=by
 induction s with
 |nil=>simp[nS.pF]
 |cons x xs A=>simp[nS.pF,A,Bool.and_assoc]
def nS.xC{p:α->List (nS α)->Bool}{s:List (nS α)}{i:Nat}{x:nS α}(h:s[i]? =U x):nS.pF p (s.take (i+1))=(nS.pF p (s.take i)&&x.all p):=by
 rw[List.take_add_one,h];simp[nS.Ba,nS.pF]
def nS.uH{p:α->List (nS α)->Bool}{s:List (nS α)}{i:Nat}{x:nS α}(h:s[i]? =U x)(A:x.all p=O):nS.pF p s=O:=by
 induction s generalizing i with
 |nil=>simp at h
 |cons y ys C=>
  cases i with
  |zero=>simp at h;subst h;simp[nS.pF,A]
  |succ i=>simp at h;simp[nS.pF,C h]
def nS.MZ{eq:α->α->Bool}{s t:List (nS α)}(h:s.length≠t.length):nS.uu eq s t=O:=by
 induction s generalizing t with
 |nil=>cases t<;>simp_all [nS.uu]
 |cons x xs A=>cases t with
  |nil=>simp[nS.uu]
  |cons y ys=>simp only[nS.uu];rw[A (by simpa using h)];simp
def nS.RJ{eq:α->α->Bool}{s t:List (nS α)}{i:Nat}{x y:nS α}(A:s[i]? =U x)(hy:t[i]? =U y):
  nS.uu eq (s.take (i+1)) (t.take (i+1))=(nS.uu eq (s.take i) (t.take i)&&x.same eq y):=by
 induction s generalizing t i with
 |nil=>simp at A
 |cons a us C=>
  cases t with
  |nil=>simp at hy
  |cons b bs=>
   cases i with
   |zero=>simp at A hy;subst A;subst hy;simp[nS.uu]
   |succ i=>
    simp at A hy;simp only[jY,nS.uu];rw[C A hy,Bool.and_assoc]
def nS.Pj{eq:α->α->Bool}{s t:List (nS α)}{i:Nat}{x y:nS α}(A:s[i]? =U x)(hy:t[i]? =U y)(h:x.same eq y=O):nS.uu eq s t=O:=by
 induction s generalizing t i with
 |nil=>simp at A
 |cons a us C=>
  cases t with
  |nil=>simp at hy
  |cons b bs=>
   cases i with
   |zero=>simp at A hy;subst A;subst hy;simp[nS.uu,h]
   |succ i=>
    simp at A hy;simp[nS.uu,C A hy]
structure Shape(α:Type) where
 k:Nat
 cells:α->jC->List jC
 ok:α->Prop
 hk:∀a v,(cells a v).length=k
def SliceOf(w:M)(Q:Nat->Prop)(v:jC)(n:Nat)(ar:Nat->Nat->Prop):Prop:=
 ∃oa cap,v=u oa n cap/\n<=cap/\cap<=jN/\(0<n->∃b off,oa=U (Z b off V)/\b<w.heap.size/\Q b/\ar b off)
mutual
def Shape.tO(S:Shape α)(w:M)(Q:Nat->Prop):nS α->Nat->Nat->Prop
 | .node a s,b,off=>S.ok a/\∃v,(∀j,j<S.k->w.cell? (Z b (off+j) V)=(S.cells a v)[j]?)/\SliceOf w Q v s.length (Shape.rz S w Q s)
def Shape.rz(S:Shape α)(w:M)(Q:Nat->Prop):List (nS α)->Nat->Nat->Prop
 |[],_,_=>True
 |x::xs,b,off=>Shape.tO S w Q x b off/\Shape.rz S w Q xs b (off+S.k)
end
def Shape.om(S:Shape α)(w:M)(Q:Nat->Prop)(v:jC)(s:List (nS α)):Prop:=SliceOf w Q v s.length (Shape.rz S w Q s)
def SliceOf.mono{w w':M}{Q Q':Nat->Prop}{v:jC}{n:Nat}{ar A:Nat->Nat->Prop}(h:SliceOf w Q v n ar)(hs:w.heap.size<=w'.heap.size)(E:∀b,b<w.heap.size->Q b->Q' b)(I:∀b o,Q b->b<w.heap.size->ar b o->A b o):SliceOf w' Q' v n A:=by
 obtain⟨oa,cap,J,N,aa,ae⟩:=h;refine⟨oa,cap,J,N,aa,λhn=> ?_⟩;obtain⟨b,off,e,hb,C,af⟩:=ae hn;exact⟨b,off,e,K,E b hb C,I b off C hb af⟩
mutual
def Shape.tO.keep{S:Shape α}{w w':M}{Q Q':Nat->Prop}(hs:w.heap.size<=w'.heap.size)(C:∀b,b<w.heap.size->Q b->Q' b)(hk:∀b,b<w.heap.size->Q b->w'.heap[b]? =w.heap[b]?):
  ∀(x:nS α)(b off:Nat),b<w.heap.size->Q b->S.tO w Q x b off->S.tO w' Q' x b off
 | .node a s,b,off,hb,I,h=>by
  simp only[Shape.tO]at h|-;obtain⟨ho,v,hc,A⟩:=h;refine⟨ho,v,λj J=> ?_,A.mono hs C λb' N aa E ae=>Shape.rz.keep hs C hk s b' N E aa ae⟩;rw[mX (w:=w) (a:=(Z b (off+j) V)) (hk b hb I)];exact hc j J
def Shape.rz.keep{S:Shape α}{w w':M}{Q Q':Nat->Prop}(hs:w.heap.size<=w'.heap.size)(A:∀b,b<w.heap.size->Q b->Q' b)(hk:∀b,b<w.heap.size->Q b->w'.heap[b]? =w.heap[b]?):
  ∀(s:List (nS α))(b off:Nat),b<w.heap.size->Q b->S.rz w Q s b off->S.rz w' Q' s b off
 |[],_,_,_,_,_=>by simp only[Shape.rz]
 |x::xs,b,off,hb,C,h=>by
  simp only[Shape.rz]at h|-;exact⟨Shape.tO.keep hs A hk x b off hb C h.1,Shape.rz.keep hs A hk xs b _ hb C h.2⟩
end
def Shape.om.keep{S:Shape α}{w w':M}{Q Q':Nat->Prop}{v:jC}{s:List (nS α)}(h:S.om w Q v s)(hs:w.heap.size<=w'.heap.size)(A:∀b,b<w.heap.size->Q b->Q' b)(hk:∀b,b<w.heap.size->Q b->w'.heap[b]? =w.heap[b]?):S.om w' Q' v s:=
 SliceOf.mono h hs A λb o q hb C=>Shape.rz.keep hs A hk s b o hb q C
def Shape.om.below{S:Shape α}{w w':M}{Q:Nat->Prop}{v:jC}{s:List (nS α)}(h:S.om w Q v s)(hb:jD w.heap.size w w'):S.om w' Q v s:=
 h.keep hb.size (λ_ _ h=>h) λb hl _=>hb.block b hl
def Shape.rz.get{S:Shape α}{w:M}{Q:Nat->Prop}:∀{s:List (nS α)}{b off:Nat},S.rz w Q s b off->∀{i:Nat}{x:nS α},s[i]? =U x->S.tO w Q x b (off+i*S.k)
 |[],_,_,_,_,_,A=>by simp at A
 |y::ys,b,off,h,i,x,A=>by
  simp only[Shape.rz]at h;cases i with
  |zero=>simp at A;subst A;simpa using h.1
  |succ i=>
   have:=Shape.rz.get h.2 (i:=i) (x:=x) (by simpa using A);rwa [show off+S.k+i*S.k=off+(i+1)*S.k by rw[lT];omega]at this
def Shape.om.get{S:Shape α}{w:M}{Q:Nat->Prop}{v:jC}{s:List (nS α)}(h:S.om w Q v s):
  ∃oa cap,v=u oa s.length cap/\s.length<=cap/\cap<=jN/\∀i x,s[i]? =U x->∃b off ao,oa=U (Z b off V)/\b<w.heap.size/\Q b/\S.ok x.lab/\
   (∀j,j<S.k->w.cell? (Z b (off+(i*S.k+j)) V)=(S.cells x.lab ao)[j]?)/\S.om w Q ao x.sub:=by
 obtain⟨oa,cap,C,E,I,J⟩:=h;refine⟨oa,cap,C,E,I,λi x A=> ?_⟩;obtain⟨hi,_⟩:=lu.1 A;obtain⟨b,off,e,hb,N,aa⟩:=J K;have:=aa.get A;cases x with
 |node a ag=>
  simp only[Shape.tO]at this;obtain⟨ho,ao,hc,ae⟩:=this;exact⟨b,off,ao,e,hb,N,ho,λj af=>by rw[<-kK];exact hc j af,ae⟩
end
end
section
structure IL where
 text:List Ax
 list:Bool
 deriving DecidableEq
def wO:Shape IL:=⟨3,λa v=>[G ⟨a.text.toArray⟩,nH a.list,v],λa=>a.text.length<=jN,λ_ _=>rfl⟩
def Ll(a b:IL):Bool:=a.list==b.list&&a.text==b.text
def tu(a:IL)(n:Nat):Bool:=if a.list then a.text.isEmpty else At (n=0)
def p9(a:IL)(s:List (nS IL)):Bool:=tu a s.length
def si(x:nS IL):Bool:=x.all p9&&At (x.deep<=16)&&At (x.count<=1024)
def hdr(by' n:Nat):List Ax:=if n<=55 then [jU (by'+n)]else jU (by'+55+(AB n).length)::(AB n).reverse
def single(t:List Ax):Bool:=match t with
 |[b]=>At (b.toNat<128)
 |_=>O
mutual
def enc:nS IL->List Ax
 | .node a s=>if a.list then hdr 192 (zb s).length++zb s else if single a.text then a.text else hdr 128 a.text.length++a.text
def zb:List (nS IL)->List Ax
 |[]=>[]
 |x::xs=>enc x++zb xs
end
def hd2(l:List Ax)(list:Bool)(size n:Nat):Except Nat (Bool×Nat×Nat):=
 if l.length - size<n then .error 2 else if list=O/\n=1/\(l.getD size 0).toNat<128 then .error 3 else .ok (list,size,n)
def hd(l:List Ax):Except Nat (Bool×Nat×Nat):=match l with
 |[]=> .error 2
 |b::r=>
  if b.toNat<128 then .ok (O,0,1)
  else if b.toNat -(if 192<=b.toNat then 192 else 128)<=55 then hd2 l (At (192<=b.toNat)) 1 (b.toNat -(if 192<=b.toNat then 192 else 128))
  else if l.length<1+(b.toNat -(if 192<=b.toNat then 192 else 128) - 55)then .error 2
  else if(r.head? =U 0\/tX (r.take (b.toNat -(if 192<=b.toNat then 192 else 128) - 55))<56)then .error 3
  else hd2 l (At (192<=b.toNat)) (1+(b.toNat -(if 192<=b.toNat then 192 else 128) - 55)) (tX (r.take (b.toNat -(if 192<=b.toNat then 192 else 128) - 55)))
def Pk(Fv:List Ax->Nat->Except Nat (nS IL×Nat×Nat)):Nat->List Ax->Nat->List (nS IL)->Except Nat (List (nS IL)×Nat)
 |0,_,_,_=> .error 0
 |f+1,l,m,sub=>if l=[]then .ok (sub,m)else match Fv l m with
  | .error e=> .error (if e=2 then 3 else e)
  | .ok y=>Pk Fv f (l.drop y.2.1) y.2.2 (sub++[y.1])
def xS:Nat->List Ax->Nat->Except Nat (nS IL×Nat×Nat)
 |0,l,_=>if l=[]then .error 2 else .error 6
 |k+1,l,m=>if l=[]then .error 2 else if m=0 then .error 4 else match hd l with
  | .error e=> .error e
  | .ok q=>if q.1 then(match Pk (xS k) (q.2.2+1) ((l.drop q.2.1).take q.2.2) (m - 1) []with
    | .error e=> .error e
    | .ok y=> .ok (.node ⟨[],R⟩ y.1,q.2.1+q.2.2,y.2))
   else .ok (.node ⟨(l.drop q.2.1).take q.2.2,O⟩ [],q.2.1+q.2.2,m - 1)
def a3c{n:Nat}(h:n<2^64):(AB n).length<=8:=AX 8 n (by simpa using h)
def a3d(by' n:Nat):0<(hdr by' n).length:=by unfold hdr;split<;>simp
def Y6(by' n:Nat)(h:n<2^64):(hdr by' n).length<=9:=by
 unfold hdr;split;.simp
 .simp;exact a3c h
def Uz{l:List Ax}{list:Bool}{size n:Nat}{q:Bool×Nat×Nat}(h:hd2 l list size n=.ok q):
  q=(list,size,n)/\n<=l.length - size/\(list=O->n=1->¬(l.getD size 0).toNat<128):=by
 unfold hd2 at h;split at h;.cases h
 split at h;.cases h
 .rename_i C A
  cases h;exact⟨rfl,K,λa b c=>A ⟨a,b,c⟩⟩
def Gu{l:List Ax}{size n:Nat}(hn:size+n<=l.length)(h:n=1->¬(l.getD size 0).toNat<128):single ((l.drop size).take n)=O:=by
 cases e:(l.drop size).take n with
 |nil=>rfl
 |cons b t=>
  cases t with
  |cons c t=>rfl
  |nil=>
   have A:n=1:=by
    have:=congrArg List.length e;simp at this;omega
   have C:l[size]? =U b:=by
    have:=congrArg (λl=>l[0]?) e;simpa [A,mK]using this
   have:=h A;simp[List.getD,C]at this;simp[single];omega
def M0{l:List Ax}{q:Bool×Nat×Nat}(h:hd l=.ok q):
  q.2.1+q.2.2<=l.length/\0<q.2.1+q.2.2/\q.2.2<=l.length/\
  ((q.1=O/\q.2.1=0/\q.2.2=1/\single ((l.drop q.2.1).take q.2.2)=R)\/
   (l.take q.2.1=hdr (if q.1 then 192 else 128) q.2.2/\(q.1=O->single ((l.drop q.2.1).take q.2.2)=O)/\0<q.2.1)):=by
 cases l with
 |nil=>simp[hd]at h
 |cons b r=>
  simp only[hd]at h;have ah:=b.toNat_lt;split at h
  .rename_i c
   cases h;exact⟨nX,nX,nX,.inl ⟨rfl,rfl,rfl,by simp[single];omega⟩⟩
  rename_i c;have C:(if 192<=b.toNat then(192:Nat)else 128)=(if At (192<=b.toNat)then 192 else 128):=nX;have ag:(if 192<=b.toNat then(192:Nat)else 128)<=b.toNat:=by split<;>omega
  generalize At (192<=b.toNat)=list at*;generalize hB:(if 192<=b.toNat then(192:Nat)else 128)=by' at*;split at h
  .rename_i c1
   obtain⟨rfl,E,I⟩:=Uz h;simp only[j4]at E|-;refine⟨K,K,K,.inr ⟨?_,λe=>Gu nY (λJ=>I e J),K⟩⟩;unfold hdr;rw[AC c1,<-C];have e:jU (by'+(b.toNat - by'))=b:=by rw[show by'+(b.toNat - by')=b.toNat by omega];simp
   rw[e];simp
  rename_i c1;split at h;.cases h
  rename_i c2;split at h;.cases h
  rename_i c3;obtain⟨rfl,E,I⟩:=Uz h;simp only[j4]at E c2|-;refine⟨K,K,K,.inr ⟨?_,λe=>Gu nY (λJ=>I e J),K⟩⟩;have hk:(r.take (b.toNat - by' - 55)).length=b.toNat - by' - 55:=nY;cases A:r.take (b.toNat - by' - 55)with
  |nil=>rw[A]at hk;simp at hk;omega
  |cons c0 t=>
   have N:r.head? =U c0:=by
    cases r with
    |nil=>simp at A
    |cons c1 ai=>rw[show b.toNat - by' - 55=(b.toNat - by' - 56)+1 by omega,jY]at A;simp at A|-;exact A.1
   have aa:c0.toNat≠0:=by
    intro e;apply c3;left;rw[N];congr 1;exact lX.1 e
   have ae:AB (tX (c0::t))=(c0::t).reverse:=by
    unfold tX;rw[List.reverse_cons,OA _ _ aa]
   rw[A]at hk c3;unfold hdr;have af:¬tX (c0::t)<=55:=λh=>c3 (.inr K)
   rw[As af,ae,List.reverse_reverse,List.length_reverse,hk,<-C];have e:jU (by'+55+(b.toNat - by' - 55))=b:=by rw[show by'+55+(b.toNat - by' - 55)=b.toNat by omega];simp
   rw[e,show 1+(b.toNat - by' - 55)=(b.toNat - by' - 55)+1 by omega,jY,A]
def Y7{k:Nat}(h:∀l m y,xS k l m=.ok y->0<y.2.1/\y.2.1<=l.length/\y.2.2+y.1.count=m/\y.1.deep<=k/\y.1.all p9=R/\l.take y.2.1=enc y.1):
  ∀(f:Nat)(l:List Ax)(m:Nat)(sub:List (nS IL))(y:List (nS IL)×Nat),Pk (xS k) f l m sub=.ok y->
   ∃s,y.1=sub++s/\l=zb s/\y.2+nS.oz s=m/\nS.pz s<=k/\nS.pF p9 s=R:=by
 intro f;induction f with
 |zero=>intro l m sub y hy;simp[Pk]at hy
 |succ f A=>
  intro l m sub y hy;simp only[Pk]at hy;split at hy
  .rename_i e
   cases hy;exact⟨[],nX,by simp[e,zb],by simp[nS.oz],by simp[nS.pz],by simp[nS.pF]⟩
  .split at hy
   .cases hy
   .rename_i x C
    obtain⟨J,N,aa,ae,E,I⟩:=h _ _ _ C;obtain⟨s,e1,e2,e3,e4,e5⟩:=A _ _ _ _ hy;refine⟨x.1::s,by rw[e1];simp,?_,?_,?_,?_⟩;.simp only[zb];rw[<-I,<-e2,mO]
    .simp only[nS.oz];omega
    .simp only[nS.pz];omega
    .simp only[nS.pF,E,e5];rfl
def D7:∀(k:Nat)(l:List Ax)(m:Nat)(y:nS IL×Nat×Nat),xS k l m=.ok y->
  0<y.2.1/\y.2.1<=l.length/\y.2.2+y.1.count=m/\y.1.deep<=k/\y.1.all p9=R/\l.take y.2.1=enc y.1:=by
 intro k;induction k with
 |zero=>intro l m y h;simp only[xS]at h;split at h<;>cases h
 |succ k N=>
  intro l m y h;simp only[xS]at h;split at h;.cases h
  split at h;.cases h
  rename_i hl ah;split at h;.cases h
  rename_i q aa;obtain⟨J,a2,a3,a4⟩:=M0 aa;split at h
  .rename_i A
   split at h;.cases h
   rename_i z ae;obtain⟨s,e1,e2,e3,e4,e5⟩:=Y7 N _ _ _ _ _ ae;cases h;simp only[List.nil_append]at e1;refine⟨a2,J,?_,?_,?_,?_⟩;.simp only[nS.count,e1];omega
   .simp only[nS.deep,e1];omega
   .simp only[nS.all,e1,e5,p9,tu];rfl
   .rcases a4 with⟨C,_⟩|⟨C,_,_⟩
    .rw[A]at C;cases C
    .simp only[enc,if_true,e1,<-e2]
     rw[A,AC rfl]at C;rw[show((l.drop q.2.1).take q.2.2).length=q.2.2 by simp;omega,<-C,List.take_add]
  .rename_i A
   have E:q.1=O:=by simpa using A
   cases h;refine⟨a2,J,?_,?_,?_,?_⟩;.simp only[nS.count,nS.oz];omega
   .simp only[nS.deep,nS.pz];omega
   .simp[nS.all,p9,tu,nS.pF]
   .rcases a4 with⟨C,I,af,ag⟩|⟨C,I,af⟩
    .simp only[enc,lS,if_false,ag,if_true]
     simp[I]
    .simp only[enc,lS,if_false,I E]
     rw[E]at C;simp only[lS,if_false]at C;rw[show((l.drop q.2.1).take q.2.2).length=q.2.2 by simp;omega,<-C,List.take_add]
end
section
open Go.RowKit
abbrev IT:jX:=47
def anyI:Nat->Prop:=λ_=>True
abbrev oo(w:M)(Q:Nat->Prop)(v:jC)(s:List (nS IL)):Prop:=wO.om w Q v s
abbrev qF(w:M)(v:jC)(s:List (nS IL)):Prop:=wO.om w anyI v s
def txt(a:IL):An:=⟨a.text.toArray⟩
def D8(a:IL):(txt a).data.toList=a.text:=rfl
def uw(a:IL):(txt a).size=a.text.length:=lK
def oo.slice{w:M}{Q:Nat->Prop}{v:jC}{s:List (nS IL)}(h:oo w Q v s):∃oa cap,v=u oa s.length cap/\s.length<=cap/\cap<=jN:=by
 obtain⟨oa,cap,A,C,E,_⟩:=h;exact⟨oa,cap,A,C,E⟩
def oo.at_{w:M}{Q:Nat->Prop}{oa:Option kW}{n cap:Nat}{s:List (nS IL)}(h:oo w Q (u oa n cap) s){i:Nat}{x:nS IL}(A:s[i]? =U x):
  ∃b off ao,oa=U (Z b off V)/\b<w.heap.size/\Q b/\w.cell? (Z b (off+i*3) V)=U (G (txt x.lab))/\w.cell? (Z b (off+i*3+1) V)=U (nH x.lab.list)/\
   w.cell? (Z b (off+i*3+2) V)=U ao/\oo w Q ao x.sub/\x.lab.text.length<=jN:=by
 obtain⟨N,C,E,aa,ae,I⟩:=Shape.om.get h;cases E;obtain⟨b,off,ao,e,hb,J,ho,hc,hs⟩:=I i x A;exact⟨b,off,ao,e,hb,J,by simpa [wO,txt,kK]using hc 0 nT,by simpa [wO,kK]using hc 1 nT,by simpa [wO,kK]using hc 2 nT,hs,ho⟩
def vF{w:M}{t:jX}{T:An}{l:Bool}{v:jC}{Q:Nat->Prop}{s:List (nS IL)}(h:oo w Q v s):
  ∀W,w.alloc (nL #[G T,nH l,v] t)=W->jD w.heap.size w W/\oo W Q v s/\W.heap.size=w.heap.size+1/\
   W.cell? (Z w.heap.size 0 V)=U (G T)/\W.cell? (Z w.heap.size 1 V)=U (nH l)/\W.cell? (Z w.heap.size 2 V)=U v/\nU W w.heap.size #[G T,nH l,v] t:=by
 rintro W rfl;have A:=(jE w.heap.size w).alloc (jB _) (nL #[G T,nH l,v] t);have hB:=nU.new w #[G T,nH l,v] t;exact⟨A,Shape.om.below h A,nX,hB.cell 0,hB.cell 1,hB.cell 2,hB⟩
def Wy{w:M}{t:jX}{T T2:An}{l l2:Bool}{v v2:jC}{s A:List (nS IL)}(h:qF w v s)(I:qF w v2 A):
  ∀W,(w.alloc (nL #[G T,nH l,v] t)).alloc (nL #[G T2,nH l2,v2] t)=W->jD w.heap.size w W/\qF W v s/\qF W v2 A/\W.heap.size=w.heap.size+2/\
   (W.cell? (Z w.heap.size 0 V)=U (G T)/\W.cell? (Z w.heap.size 1 V)=U (nH l)/\W.cell? (Z w.heap.size 2 V)=U v)/\
   (W.cell? (Z (w.heap.size+1) 0 V)=U (G T2)/\W.cell? (Z (w.heap.size+1) 1 V)=U (nH l2)/\W.cell? (Z (w.heap.size+1) 2 V)=U v2):=by
 rintro W rfl;obtain⟨C,a2,a3,a4,a5,a6,_⟩:=vF (T:=T) (l:=l) (t:=t) h _ rfl;obtain⟨b1,J,b3,b4,E,b6,_⟩:=vF (w:=w.alloc (nL #[G T,nH l,v] t)) (T:=T2) (l:=l2) (t:=t) (Shape.om.below I C) _ rfl;rw[a3]at b1 b3 b4 E b6;have hlt:w.heap.size<w.heap.size+1:=lF _;exact⟨C.trans (b1.mono K),Shape.om.below a2 (a3▸b1),J,b3,⟨(b1.cell (p:=(Z w.heap.size 0 V)) hlt).trans a4,(b1.cell (p:=(Z w.heap.size 1 V)) hlt).trans a5,(b1.cell (p:=(Z w.heap.size 2 V)) hlt).trans a6⟩,b4,E,b6⟩
def M3{p:Prop}(h:p:=by
 by_cases h:z=c;.exact .inl ⟨by simp[h],h⟩
 .exact .inr ⟨by simp[h],h⟩):p:=h
def a8G(z c:Int):((z !=c)=O/\jI (z=c))\/((z !=c)=R/\jI (z≠c)):=by
 exact M3
def str_eq{a b:An}(h:a=b):(a.toList==b.toList)=R:=by subst h;simp
def RL{a b:An}(h:a≠b):(a.toList==b.toList)=O:=by rw[Lib.toList_data,Lib.toList_data,beq_eq_false_iff_ne];exact λe=>h (Go.WideShapes.bytes_inj e)
def a3e{a b:IL}(h:txt a=txt b):a.text=b.text:=by rw[<-D8 a,<-D8 b,h]
def a8H.wy{α:Type}(s:List (nS α))(i:Nat):nS.pz (s.take i)<=nS.pz s:=by
 conv=>rhs;rw[<-mO i s,nS.xu]
 exact Nat.le_max_left _ _
def Hm(T:An):(T.toList==([]:List Ax))=At (T.size=0):=by
 rw[Lib.toList_data];by_cases h:T.size=0
 .rw[decide_eq_true h]
  have:T.data.toList=[]:=mh.1 (by simpa using h);rw[this];rfl
 .rw[decide_eq_false h,beq_eq_false_iff_ne]
  intro e;apply h;have:=congrArg List.length e;simpa using this
def Y8(a:IL):At ((txt a).size=0)=a.text.isEmpty:=by
 rw[uw];cases a.text<;>simp
def RN(a b:IL)(s t:List (nS IL)):(nS.node a s).same Ll (.node b t)=(Ll a b&&nS.uu Ll s t):=rfl
def M4{p:Prop}(h:p:=by
 go_wp2;go_returns;exact⟨by rw[HE.out];rfl,HF.out⟩):p:=h
def Wz(x:nS IL):∀(y:nS IL)(w:M)(v v2:jC),qF w v x.sub->qF w v2 y.sub->
  jG jy 43 #[nI #[G (txt x.lab),nH x.lab.list,v],nI #[G (txt y.lab),nH y.lab.list,v2]] w
   λe w'=>e=nK (nH (x.same Ll y))/\jD w.heap.size w w':=by
 induction x using nS.ind with
 |h a s aP=>
  intro y w v v2 au aa;obtain⟨a2,E⟩:=y;simp only[nS.rE,nS.o9]at au aa|-;obtain⟨oa,cap,rfl,aG,ay⟩:=oo.slice au;obtain⟨aQ,ag,rfl,av,aH⟩:=oo.slice aa;obtain⟨g,hg⟩:=og w.heap.size;have ah:=H (Wy (T:=txt a) (l:=a.list) (T2:=txt a2) (l2:=a2.list) (t:=IT) au aa);have aR:s.length<=9223372036854775807:=by unfold jN at ay;omega
  have I:jI ((nS.node a s).same Ll (.node a2 E)=(At (a.list=a2.list)&&At (txt a=txt a2)&&nS.uu Ll s E)):=H (by
   have e1:At (txt a=txt a2)=At (a.text=a2.text):=decide_eq_decide.2 ⟨a3e,λh=>by unfold txt;rw[h]⟩;rw[RN,e1];unfold Ll;by_cases aI:a.list=a2.list<;>by_cases aJ:a.text=a2.text<;>simp[aI,aJ])
  generalize (nS.node a s).same Ll (.node a2 E)=ar at*;obtain⟨aq,aK⟩:=og s.length;have aL:=H aK;obtain⟨aM,ai⟩:=og E.length;have aj:=H ai;have bC:=H aP;rw[hg]at ah|-;rw[aK]at ah aR|-;rw[ai]at ah|-;clear au aa aG ay av aH aP aK ai;have ax:=a8G (aq:Int) (aM:Int);go_in;go_upto_region 1 with fail;generalize (w.alloc (nL #[G (txt a),nH a.list,u oa aq cap] IT)).alloc (nL #[G (txt a2),nH a2.list,u aQ aM ag] IT)=w1 at*;obtain⟨az,ht1,ht2,hsz,⟨c0,c1,c2⟩,bD,e1,e2⟩:=ah.out _ rfl;have ae:=H (jF az (jF ht1 ht2));clear ah az ht1 ht2;generalize txt a=T at*;generalize txt a2=T2 at*;generalize a.list=L at*;generalize a2.list=aS at*;by_cases hL:L=aS;case neg=>
   have HE:jI (ar=O):=H (by rw[I.out];simp[hL]);clear I;rcases L with _|_<;>rcases aS with _|_<;>first|exact absurd rfl hL|skip
   all_goals
    clear hL;go_wp2;go_returns;exact⟨by rw[HE.out];rfl,ae.1⟩
  subst hL;by_cases J:T=T2;case neg=>
   have HE:jI (ar=O):=H (by rw[I.out];simp[J]);have aT:=RL J;clear I J;rcases L with _|_
   all_goals
    go_wp2;go_returns;exact⟨by rw[HE.out];rfl,ae.1⟩
  have aT:=str_eq J;rcases ax with⟨ax,aN⟩|⟨ax,aN⟩
  case inr=>
   have HE:jI (ar=O):=H (by
    have q:=aN.out;rw[I.out,nS.MZ (by rw[aL.out,aj.out];omega),Bool.and_false])
   clear I J;rcases L with _|_
   all_goals
    go_wp2;go_returns;exact⟨by rw[HE.out];rfl,ae.1⟩
  obtain rfl:aq=aM:=by have:=aN.out;omega
  have aA:jI (ar=nS.uu Ll s E):=H (by rw[I.out];simp[J]);clear I J;rcases L with _|_
  all_goals
   go_wp2_with fail;clear ax c0 c1 bD e1 aT;go_loopw [5] (λiv bE=>∃k:Nat,iv=Y X k/\k<=aq/\jI (nS.uu Ll (s.take k) (E.take k)=R)/\jI (jD (g+2) w1 bE)) (λiv _=>aq -(kC iv).toNat);case atStart=>exact⟨0,rfl,K,by simp[jI,nS.uu],H (jE _ _)⟩
   case round=>
    obtain⟨k,rfl,hk,aU,C⟩:=hrel;have aV:wr.cell? (Z g 2 V)=U (u oa aq cap):=(C.cell (p:=(Z g 2 V)) (show g<g+2 by omega)).trans c2;have HF:jI (jD g w wr):=H (ae.1.trans (C.mono K));by_cases c:k<aq
    .obtain⟨y,hy⟩:∃y,s[k]? =U y:=⟨_,jL (by rw[aL.out];exact c)⟩
     obtain⟨af,ak⟩:∃y,E[k]? =U y:=⟨_,jL (by rw[aj.out];exact c)⟩;obtain⟨b,off,ao,rfl,hlt,_,aW,aX,y2,aY,aZ⟩:=oo.at_ (Shape.om.below ae.2.1 (hsz▸C.out)) hy;obtain⟨b',A,bg,rfl,N,_,aB,aC,aD,aF,aO⟩:=oo.at_ (Shape.om.below ae.2.2 (hsz▸C.out)) ak;have bq:g+2<=wr.heap.size:=by have:=C.size;omega
     have bL:∀x:sW wr,x.at_.cell? (Z g 2 V)=U (u (U (Z b off V)) aq cap):=λx=>(x.is.cell (p:=(Z g 2 V)) (show g<wr.heap.size by omega)).trans aV
     have bH:∀x:sW wr,x.at_.cell? (Z (g+1) 2 V)=U (u (U (Z b' A V)) aq ag):=λx=>(x.is.cell (p:=(Z (g+1) 2 V)) (show g+1<wr.heap.size by omega)).trans ((C.cell (p:=(Z (g+1) 2 V)) (show g+1<g+2 by omega)).trans e2)
     have bM:∀x:sW wr,x.at_.cell? (Z b (off+k*3) V)=U (G (txt y.lab)):=λx=>(x.is.cell (p:=(Z b (off+k*3) V)) hlt).trans aW
     have bN:∀x:sW wr,x.at_.cell? (Z b (off+k*3+1) V)=U (nH y.lab.list):=λx=>(x.is.cell (p:=(Z b (off+k*3+1) V)) hlt).trans aX
     have bO:∀x:sW wr,x.at_.cell? (Z b (off+k*3+2) V)=U ao:=λx=>(x.is.cell (p:=(Z b (off+k*3+2) V)) hlt).trans y2
     have bI:∀x:sW wr,x.at_.cell? (Z b' (A+k*3) V)=U (G (txt af.lab)):=λx=>(x.is.cell (p:=(Z b' (A+k*3) V)) N).trans aB
     have bJ:∀x:sW wr,x.at_.cell? (Z b' (A+k*3+1) V)=U (nH af.lab.list):=λx=>(x.is.cell (p:=(Z b' (A+k*3+1) V)) N).trans aC
     have bK:∀x:sW wr,x.at_.cell? (Z b' (A+k*3+2) V)=U bg:=λx=>(x.is.cell (p:=(Z b' (A+k*3+2) V)) N).trans aD
     have bF:=H (λx:sW wr=>bC.out y (kE hy) af x.at_ ao bg (Shape.om.below aY x.is) (Shape.om.below aF x.is));have bu:jI (nS.uu Ll (s.take (k+1)) (E.take (k+1))=y.same Ll af):=by
      unfold jI;rw[nS.RJ hy ak,aU.out];rfl
     have bz:jI (y.same Ll af=O->ar=O):=H λh=>by rw[aA.out];exact nS.Pj hy ak h
     have bA:jI (∀x:sW wr,jD (g+2) w1 x.at_):=H λx=>C.trans (x.is.mono bq)
     have hbf:jI (∀x:sW wr,jD g w x.at_):=H λx=>HF.trans (x.is.mono K)
     clear aY aZ aF aO aW aX y2 aB aC aD;generalize y.same Ll af=bG at*;go_upto_region 6 with fail;refine oK nV nV ?_;repeat(go_big_quiet_step (exact Calls.after (bF _)))
     refine l7 ?_;intro x;cases bG with
     |true=>
      go_wp2_with fail;exact⟨⟨k+1,by go_num,K,bu,H (bA x)⟩,by simp[kC];omega⟩
     |false=>
      have HE:=H (bz rfl);go_wp2;go_returns;exact⟨by rw[HE.out];rfl,hbf x⟩
    .obtain rfl:k=aq:=K
     have HE:jI (ar=R):=by
      unfold jI;have aI:s.take k=s:=by rw[<-aL.out,lM]
      have aJ:E.take k=E:=by rw[<-aj.out,lM]
      have bB:=aU.out;rw[aI,aJ]at bB;rw[aA.out,bB]
     exact M4
def Y9(a:IL):Ll a a=R:=by simp[Ll]
mutual
def IZ(x:nS IL):x.same Ll x=R:=by
 cases x with
 |node a s=>simp only[nS.same,Y9,Gv s,Bool.and_self]
def Gv(s:List (nS IL)):nS.uu Ll s s=R:=by
 cases s with
 |nil=>rfl
 |cons x xs=>simp only[nS.uu,IZ x,Gv xs,Bool.and_self]
end
def Pm(a:IL)(oa:Option kW)(n cap:Nat)(w:M)(hn:n<=9223372036854775807):
  jG jy 200 #[nI #[G (txt a),nH a.list,u oa n cap]] w λe w'=>e=nK (nH (tu a n))/\jD w.heap.size w w':=by
 obtain⟨g,hg⟩:=og w.heap.size;have I:jI (∀W,w.alloc (nL #[G (txt a),nH a.list,u oa n cap] IT)=W->jD g w W/\nU W g #[G (txt a),nH a.list,u oa n cap] IT):=H λW h=>by
  subst h;exact⟨hg▸(jE _ w).alloc (jB _) _,hg▸nU.new w _ _⟩
 have A:jI (tu a n=if a.list then At ((txt a).size=0)else At (n=0)):=H (by rw[Y8];rfl);have C:=H (Hm (txt a));rw[hg];generalize tu a n=am at*;generalize txt a=T at*;generalize a.list=L at*;go_in;go_upto_region 1 with fail;generalize w.alloc (nL #[G T,nH L,u oa n cap] IT)=w1 at*;obtain⟨hb,hB⟩:=I.out _ rfl;obtain⟨c0,c1,c2⟩:=hB.a3;have HB:=H hb;clear I hb hB;cases L with
 |true=>
  obtain⟨q,E⟩:=og ((T.toList==([]:List Ax)));have HE:jI (am=q):=H (by rw[A.out,<-E,C.out];rfl);clear A C;exact Fs
 |false=>
  obtain⟨q,E⟩:=og (((n:Int)==0));have HE:jI (am=q):=H (by
   rw[A.out,<-E];by_cases h:n=0;.simp[h]
   .simp[h])
  clear A C;exact Fs
def NB(w:M)(b n:Nat):Prop:=nU w b #[Y X (n:Int)] 3
abbrev D9(b q:Nat)(w:M)(v:jC)(s:List (nS IL)):Prop:=wO.om w (λc=>c≠b/\c≠q) v s
def D9.upd{b q:Nat}{w w':M}{v:jC}{s:List (nS IL)}(h:D9 b q w v s)(A:oW b q w w'):D9 b q w' v s:=
 Shape.om.keep h A.size (λ_ _ h=>h) λc hc C=>A.block c hc C.1 C.2
def oW.of{b q:Nat}{w w':M}(h:jD w.heap.size w w'):oW b q w w':=⟨h.os,h.tape,h.output,h.size,λi hi _ _=>h.block i hi⟩
def KD(T:An)(l:Bool)(o:Option kW)(n c:Nat)(w:M):jG jy 205 #[nI #[G T,nH l,u o n c]] w λe w'=>e=nK (nH R)/\jD w.heap.size w w':=by
 have A:=H ((jE _ w).alloc (jB _) (nL #[G T,nH l,u o n c] IT));go_in;go_wp2;go_returns;exact⟨rfl,A.out⟩
def Bb(fe:FuncId)(x:nS IL):Prop:=fe=200\/(fe=205/\x.all p9=R)
def Bb.cf{x:nS IL}(h:Bb fe x):∀a W,lL jy (callFunc fe #[a]) W=.ok (.enter fe #[a]) W:=by
 rcases h with rfl|⟨rfl,_⟩
 .exact λ_ _=>rfl
 .exact λ_ _=>rfl
def Bb.sub{a:IL}{s:List (nS IL)}(h:Bb fe (.node a s)){y:nS IL}{k:Nat}(hy:s[k]? =U y):Bb fe y:=by
 rcases h with h|⟨h,A⟩
 .exact .inl h
 .refine .inr ⟨h,?_⟩
  cases C:y.all p9 with
  |true=>rfl
  |false=>
   simp only[nS.all,jJ]at A;rw[nS.uH hy C]at A;cases A.2
def a3f{a:IL}{s:List (nS IL)}(h:Bb fe (.node a s))(oa:Option kW)(cap:Nat)(w:M)(hn:s.length<=9223372036854775807):
  jG jy fe #[nI #[G (txt a),nH a.list,u oa s.length cap]] w λe w'=>e=nK (nH (tu a s.length))/\jD w.heap.size w w':=by
 rcases h with rfl|⟨rfl,A⟩
 .exact Pm a oa s.length cap w hn
 .simp only[nS.all,jJ,p9]at A
  rw[A.1];exact KD _ _ _ _ _ w
structure Bc(fe:FuncId)(w:M)(bc be bd bv:Nat):Prop where
 each:nU w be #[.func (.func fe) #[] #[]] 56
 visit:nU w bv #[.func (.func 238) #[] #[nG (U (Z bc 0 V)),nG (U (Z be 0 V)),nG (U (Z bd 0 V)),nG (U (Z bv 0 V))]] 273
 e1:be≠bc
 e2:be≠bd
 v1:bv≠bc
 v2:bv≠bd
 cd:bc≠bd
def Bc.upd{w w':M}{bc be bd bv:Nat}(h:Bc fe w bc be bd bv)(A:oW bc bd w w'):Bc fe w' bc be bd bv:=⟨A.blk h.each h.e1 h.e2,A.blk h.visit h.v1 h.v2,h.e1,h.e2,h.v1,h.v2,h.cd⟩
def Bc.below{w w':M}{bc be bd bv:Nat}(h:Bc fe w bc be bd bv)(hb:jD w.heap.size w w'):Bc fe w' bc be bd bv:=h.upd (oW.of hb)
def NB.below{w w':M}{b n:Nat}(h:NB w b n)(hb:jD w.heap.size w w'):NB w' b n:=Below.blk hb h (nU.lt h)
def KE(x:nS IL)(d n:Nat):Bool:=At (d+x.deep<=17)&&At (n+x.count<=1024)&&x.all p9
def WA(x:nS IL):KE x 1 0=si x:=by
 unfold KE si;rw[show At (1+x.deep<=17)=At (x.deep<=16)by rw[decide_eq_decide];omega,show At (0+x.count<=1024)=At (x.count<=1024)by rw[decide_eq_decide];omega];cases x.all p9<;>cases At (x.deep<=16)<;>cases At (x.count<=1024)<;>rfl
abbrev RO(g:Nat):jC:=.func (.func 238) #[] #[nG (U (Z (g+2) 0 V)),nG (U (Z (g+1) 0 V)),nG (U (Z (g+3) 0 V)),nG (U (Z (g+4) 0 V))]
structure a8I(fe:FuncId)(g:Nat)(w w1 w2 w3 w4 w5:M)(a:IL)(v:jC):Prop where
 e1:w.alloc (nL #[G (txt a),nH a.list,v] IT)=w1
 e2:w1.alloc (nL #[.func (.func fe) #[] #[]] 56)=w2
 e3:w2.alloc (nL #[Y X 0] 3)=w3
 e4:w3.alloc (nL #[Y X 0] 3)=w4
 e5:w4.alloc (nL #[.nilFunc] 273)=w5
structure UA(fe:FuncId)(g:Nat)(w W:M)(a:IL)(v:jC)(s:List (nS IL)):Prop where
 ql:jD g w W
 item:nU W g #[G (txt a),nH a.list,v] IT
 off:D9 (g+2) (g+3) W v s
 c:NB W (g+2) 0
 d:NB W (g+3) 0
 vis:Bc fe W (g+2) (g+1) (g+3) (g+4)
 size:W.heap.size=g+5
def Za{g:Nat}{w w1 w2 w3 w4 w5 W:M}{a:IL}{v:jC}{s:List (nS IL)}(hg:w.heap.size=g)(ah:qF w v s)(ai:a8I fe g w w1 w2 w3 w4 w5 a v)(h:w5.setCell (Z (g+4) 0 V) (RO g)=W):
  UA fe g w W a v s/\w1.heap.size=g+1/\w2.heap.size=g+2/\w3.heap.size=g+3/\w4.heap.size=g+4/\w5.cell? (Z (g+4) 0 V)=U .nilFunc/\w5.frozen? (Z (g+4) 0 V)=O:=by
 obtain⟨e1,e2,e3,e4,e5⟩:=ai;have J:w1.heap.size=g+1:=by rw[<-e1];simp;omega
 have N:w2.heap.size=g+2:=by rw[<-e2];simp;omega
 have aa:w3.heap.size=g+3:=by rw[<-e3];simp;omega
 have ae:w4.heap.size=g+4:=by rw[<-e4];simp;omega
 have aj:w5.heap.size=g+5:=by rw[<-e5];simp;omega
 have b1:jD g w w1:=by rw[<-e1,<-hg];exact(jE _ w).alloc (jB _) _
 have ak:jD (g+1) w1 w2:=by rw[<-e2,<-J];exact(jE _ w1).alloc (jB _) _
 have b3:jD (g+2) w2 w3:=by rw[<-e3,<-N];exact(jE _ w2).alloc (jB _) _
 have b4:jD (g+3) w3 w4:=by rw[<-e4,<-aa];exact(jE _ w3).alloc (jB _) _
 have au:jD (g+4) w4 w5:=by rw[<-e5,<-ae];exact(jE _ w4).alloc (jB _) _
 have av:nU w1 g #[G (txt a),nH a.list,v] IT:=by have:=nU.new w #[G (txt a),nH a.list,v] IT;rw[e1,hg]at this;exact this
 have ax:nU w2 (g+1) #[.func (.func fe) #[] #[]] 56:=by have:=nU.new w1 #[.func (.func fe) #[] #[]] 56;rw[e2,J]at this;exact this
 have ay:nU w3 (g+2) #[Y X 0] 3:=by have:=nU.new w2 #[Y X 0] 3;rw[e3,N]at this;exact this
 have az:nU w4 (g+3) #[Y X 0] 3:=by have:=nU.new w3 #[Y X 0] 3;rw[e4,aa]at this;exact this
 have af:nU w5 (g+4) #[.nilFunc] 273:=by have:=nU.new w4 #[.nilFunc] 273;rw[e5,ae]at this;exact this
 have ag:jD (g+4) w4 W:=by
  rw[<-h];exact pX.below ((pX.refl (g+4) w5).set 0 _) au (jB _) K
 have C:jD (g+3) w3 W:=b4.trans (ag.mono K);have E:jD (g+2) w2 W:=b3.trans (C.mono K);have I:jD (g+1) w1 W:=ak.trans (E.mono K);have A:jD g w W:=b1.trans (I.mono K);refine⟨?_,J,N,aa,ae,af.cell 0,af.free 0⟩;refine⟨A,Below.blk I av K,?_,Below.blk C ay K,Below.blk ag az K,⟨Below.blk E ax K,?_,K,K,K,K,K⟩,by rw[<-h];simp[j5,aj]⟩;.exact Shape.om.keep ah A.size (λc hc _=>by omega) λc hc _=>A.block c K
 .rw[<-h]
  exact af.set 0 (RO g)
end
end Go.Proofs.YtamfcjmhnndbdaaGreatDoor


