/- Part 21 of the proof. -/
import Derived.Test.YtamfcjmhnndbdaaGreatDoorZu00
import Derived.Test.YtamfcjmhnndbdaaGreatDoorZu05
import Derived.Test.YtamfcjmhnndbdaaGreatDoorZu07
import Derived.Test.YtamfcjmhnndbdaaGreatDoorZu08
import Derived.Test.YtamfcjmhnndbdaaGreatDoorZu14
import Derived.Test.YtamfcjmhnndbdaaGreatDoorZu15
import Derived.Test.YtamfcjmhnndbdaaGreatDoorZu16
import Derived.Test.YtamfcjmhnndbdaaGreatDoorZu20
import Derived.Test.YtamfcjmhnndbdaaGreatDoorRows
import Derived.LaidMore
import Derived.Stop.Joined
import Derived.Lib.LaidTab
open Go.Value renaming agg→nC,bool→nA,int→ng,pointer→nz,slice→nk,string→ny,tuple→nD,slice→kM,int→lT
open Go.Obj renaming cells→nG
open Go.IntKind renaming i64→nH
open Go.Ending renaming returned→nE
open Go.Lib renaming hid→jH
open Go.Proofs.Tryz renaming prog→jI,underlying3→mh
open Go renaming World→jJ,Value→jP,Calls→jV,bodyPost_ret→j4,TypeId→ko,undef→kH,results→kK,Addr→l5,Program→mK
open Nat renaming le_refl→jL,le_trans→kg,zero_le→kI,lt_or_ge→lh,le_of_eq→mV
open Go.RowKit renaming Below→jS,Hid→jW,intOf→kW
open Go.RowKit.Below renaming refl→jT
open And renaming intro→jU
open List renaming getElem?_eq_getElem→jX,length_append→jY,take_succ_cons→ky,length_cons→kD,take_zero→kQ,length_drop→kS,mem_of_getElem?→kT,length_take→kY,getElem?_eq_some_iff→ll,length_eq_zero_iff→mf,mem_cons→mD,getElem?_take→mM,drop_succ_cons→mX
open Bool renaming and_eq_true→j3
open Option renaming bind_eq_some_iff→kr,bind_some→kF
open Go.World renaming setCell→kC
open Go.Lit renaming int→lJ
open Array renaming getD_eq_getD_getElem?→lK
open UInt8 renaming toNat_inj→lU
open Option.some renaming inj→ma,injEq→mI
namespace Go.Proofs.YtamfcjmhnndbdaaGreatDoor
set_option linter.unusedVariables false
set_option linter.unusedSimpArgs false
set_option maxRecDepth 100000
set_option maxHeartbeats 8000000
variable {t er i gr f:Nat}{x:nL TL}{rows mid:List Row}{c:oK}{es:List xG}{p:Prop}{w0 w:jJ}{v:jP}{L:List (qh TL)}{pf:List UInt8->Option (nL TL×List UInt8)}{r l:List UInt8}
section
open Go.RowKit
theorem Ag{P:mK}{W:jJ}{name:String}{k:IntKind}{zs:List Int}{g:Nat}{t e:ko}{n:Nat}(hg:P.globalNamed name=some g)(A:(P.globals[g]?).map (·.type)=some t)(ht:P.underlying t=some (.array n e))(he:P.underlying e=some (.int k))(C:P.cellsOf e=1)(E:P.cellsOf t=n):
  ∀{l:List (String×DataW Unit)}{ps:List MemPlace},DataW.LaidVars P W l ps->(name,Lib.tabData k zs)∈l->Lib.TabIs P W name k zs
 |[],_,_,h=>by cases h
 |(m,d)::l,ps,hl,h=>by
  obtain⟨Q,U,cs,fuel,p,q,J,N,I,hd,O,_⟩:=hl;rcases mD.1 h with h|h
  .obtain⟨rfl,rfl⟩:=Prod.mk.inj h
   obtain rfl:=ma (hg.symm.trans J);obtain rfl:=ma (A.symm.trans N);unfold Lib.TabIs;rw[I,<-Lib.cells_of_tab ht he C E hd]
  .exact Ag hg A ht he C E O h
theorem a2E:Tryz.prog.globalNamed "hatchway/schema.uintSizes" =some 1:=nM
theorem Vw:(Tryz.prog.globals[1]?).map (·.type)=some 312:=nM
theorem QZ:Tryz.prog.cellsOf 312=4:=nM
theorem JS:Tryz.prog.cellsOf 3=1:=nM
theorem Tp:Tryz.prog.globalNamed "hatchway/compact.behind" =some 0:=nM
theorem Vx:(Tryz.prog.globals[0]?).map (·.type)=some 283:=nM
theorem Q0:Tryz.prog.cellsOf 283=3:=nM
theorem ZI{W:jJ}(h:laidMetH jI [("unicode/utf8.acceptRanges",Rows.laid_unicode_utf8_acceptRanges),("hatchway/compact.behind",Rows.laid_hatchway_compact_behind),("hatchway/schema.uintSizes",Rows.laid_hatchway_schema_uintSizes),("unicode/utf8.first",Rows.laid_unicode_utf8_first)] W):qo W/\xm W:=by
 rw[MakeChecks.laidMetH_plain _ _ _ nM]at h;obtain⟨ps,C,_⟩:=h;have e1:(Rows.laid_hatchway_schema_uintSizes:DataW Unit)=Lib.tabData .i64 [1,2,4,8]:=rfl;have e2:(Rows.laid_hatchway_compact_behind:DataW Unit)=Lib.tabData .i64 [2,4,8]:=rfl;have E:=Ag (zs:=[1,2,4,8]) a2E Vw Tryz.underlying312 mh JS QZ C (by rw[<-e1];simp);have A:=Ag (zs:=[2,4,8]) Tp Vx Tryz.underlying283 mh JS Q0 C (by rw[<-e2];simp);refine⟨?_,A.cell Tp 0 nN,A.cell Tp 1 nN,A.cell Tp 2 nN⟩;intro i hi;have hc:=E.cell a2E i (by simpa using hi);rw[hc];have:i=0\/i=1\/i=2\/i=3:=nK;rcases this with rfl|rfl|rfl|rfl<;>rfl
end
section
theorem JU{x:nL IL}(h:x9 x=false):x.count<=1199/\(enc x).length<=100000/\x.lab.text.length<=6000:=by
 unfold x9 at h;simp only[Bool.or_eq_false_iff,decide_eq_false_iff_not]at h;obtain⟨C,A⟩:=h;have:=WK x nK;refine⟨nK,nK,?_⟩;cases x with
 |node a s=>rw[Ox]at A;simp only[nL.oQ];omega
end
section
open Go.RowKit
theorem Ah{nm:ByteArray}:(rows.find? λy=>decide (y.name=nm)).isSome=true<->∃r,r∈rows/\r.name=nm:=by
 rw[List.find?_isSome];simp
theorem LG{id:Nat}:(rows.find? λy=>decide (y.id=id)).isSome=true<->∃r,r∈rows/\r.id=id:=by
 rw[List.find?_isSome];simp
theorem JV{id:Nat}{nm tx:ByteArray}{row:Row}(h:uP c rows id nm tx=(er,some row)):
  row.id=id/\row.name=nm/\xu tx.data.toList=some row.ty/\(∀r,r∈rows->r.name≠nm)/\er=0:=by
 unfold uP at h;split at h;.cases h
 .rename_i A
  split at h;.cases h
  .split at h
   .cases h
   .rename_i t ht
    split at h;.cases h
    .simp only[Prod.mk.injEq,mI]at h
     obtain⟨h0,rfl⟩:=h;refine⟨rfl,rfl,ht,λr C hn=>A (.inl (Ah.2 ⟨r,C,hn⟩)),h0.symm⟩
theorem JW:∀(es:List xG)(rows out:List Row),rF c rows es=.ok out->∀nm,(∃r,r∈out/\r.name=nm)<->(∃r,r∈rows/\r.name=nm)\/∃e,e∈es/\e.nm=nm
 |[],rows,out,h,nm=>by
  unfold rF at h;cases h;simp
 |e::es,rows,out,h,nm=>by
  unfold rF at h;split at h;.cases h
  .rename_i er row I
   obtain⟨J,E,N,O,_⟩:=JV I;rw[JW es (row::rows) out h nm];simp only[mD];constructor
   .rintro(⟨r,rfl|A,hn⟩|⟨C,he,hn⟩)
    .exact .inr ⟨e,.inl rfl,by rw[<-E];exact hn⟩
    .exact .inl ⟨r,A,hn⟩
    .exact .inr ⟨C,.inr he,hn⟩
   .rintro(⟨r,A,hn⟩|⟨C,rfl|he,hn⟩)
    .exact .inl ⟨r,.inr A,hn⟩
    .exact .inl ⟨row,.inl rfl,by rw[E];exact hn⟩
    .exact .inr ⟨C,he,hn⟩
theorem LH:∀(es:List xG)(rows out:List Row),rF c rows es=.ok out->∀i:Nat,(∃r,r∈out/\r.id=i)<->(∃r,r∈rows/\r.id=i)\/∃e,e∈es/\e.id=i
 |[],rows,out,h,nm=>by
  unfold rF at h;cases h;simp
 |e::es,rows,out,h,nm=>by
  unfold rF at h;split at h;.cases h
  .rename_i er row I
   obtain⟨E,J,N,O,_⟩:=JV I;rw[LH es (row::rows) out h nm];simp only[mD];constructor
   .rintro(⟨r,rfl|A,hn⟩|⟨C,he,hn⟩)
    .exact .inr ⟨e,.inl rfl,by rw[<-E];exact hn⟩
    .exact .inl ⟨r,A,hn⟩
    .exact .inr ⟨C,.inr he,hn⟩
   .rintro(⟨r,A,hn⟩|⟨C,rfl|he,hn⟩)
    .exact .inl ⟨r,.inr A,hn⟩
    .exact .inl ⟨row,.inl rfl,by rw[E];exact hn⟩
    .exact .inr ⟨C,he,hn⟩
theorem Vy(c:oK)(rows:List Row)(e:xG)(es:List xG):rF c rows (e::es)=match uP c rows e.id e.nm e.tx with
  |(er,none)=> .error er
  |(_,some row)=>rF c (row::rows) es:=rfl
theorem Ca:∀(es:List xG)(i:Nat)(rows mid:List Row),rF c rows (es.take i)=.ok mid->rF c rows es=rF c mid (es.drop i)
 |es,0,rows,mid,h=>by
  simp[rF]at h;subst h;rfl
 |[],i+1,rows,mid,h=>by
  simp[rF]at h;subst h;rfl
 |e::es,i+1,rows,mid,h=>by
  simp only[ky,mX]at h⊢;rw[Vy]at h⊢;cases A:uP c rows e.id e.nm e.tx with
  |mk er o=>
   rw[A]at h;cases o with
   |none=>cases h
   |some row=>exact Ca es i (row::rows) mid h
theorem JX{e:xG}{row:Row}(h:rF c [] (es.take i)=.ok mid)(he:es[i]? =some e)(A:uP c mid e.id e.nm e.tx=(er,some row)):
  rF c [] (es.take (i+1))=.ok (row::mid):=by
 have hl:=(ll.1 he).1;have e1:es.take (i+1)=es.take i++[e]:=by rw[List.take_add_one,he];rfl
 have e2:(es.take i).length=i:=by rw[kY];omega
 have C:=Ca (c:=c) (es.take (i+1)) i [] mid (by rw[List.take_take,Nat.min_eq_left nK];exact h);rw[C,e1,List.drop_left' e2];unfold rF;rw[A];rfl
theorem Ai{e:xG}(h:rF c [] (es.take i)=.ok mid)(he:es[i]? =some e)(A:uP c mid e.id e.nm e.tx=(er,none)):rF c [] es=.error er:=by
 have hl:=(ll.1 he).1;rw[Ca es i [] mid h,List.drop_eq_getElem_cons hl];have:es[i]=e:=by rw[jX hl]at he;exact ma he
 rw[this];unfold rF;rw[A]
theorem ZJ(h:p:=by
 constructor
 .rintro(⟨r,hr,_⟩|⟨e,he,hn⟩)
  .cases hr
  .obtain⟨k,hk⟩:=List.getElem?_of_mem he
   by_cases hki:k<i
   .rw[List.getElem?_take_of_lt hki]at hk
    exact⟨k,e,hki,hk,hn⟩
   .rw[mM,if_neg hki]at hk;cases hk
 .rintro⟨k,e,hk,he,hn⟩
  exact .inr ⟨e,kT (i:=k) (by rw[List.getElem?_take_of_lt hk];exact he),hn⟩):p:=h
theorem JY(h:rF c [] (es.take i)=.ok mid)(nm:ByteArray):(mid.find? λy=>decide (y.name=nm)).isSome=true<->∃(k:Nat) (e:xG),k<i/\es[k]? =some e/\e.nm=nm:=by
 rw[Ah,JW _ _ _ h nm];exact ZJ
theorem EP(h:rF c [] (es.take i)=.ok mid)(id:Nat):(mid.find? λy=>decide (y.id=id)).isSome=true<->∃(k:Nat) (e:xG),k<i/\es[k]? =some e/\e.id=id:=by
 rw[LG,LH _ _ _ h id];exact ZJ
theorem JZ:∀(es:List xG)(rows:List Row),¬rF c rows es=.error 0
 |[],rows=>by unfold rF;intro h;cases h
 |e::es,rows=>by
  unfold rF;have A:=N7 c rows e.id e.nm e.tx;split
  .rename_i er C
   intro h;cases h;rw[C]at A;rcases A with A|A
   .exact A.2 rfl
   .obtain⟨_,row,E⟩:=A;cases E
  .rename_i er row C
   exact JZ es (row::rows)
def Fa(c:oK)(es:List xG):Int:=match vo c es with
 | .error er=>er
 | .ok _=>0
theorem Aj(h:p:=by
 generalize oM ⟨f,m,fr,un,de,it⟩=R at*;clear HR;go_in;go_upto_region 1 with fail;generalize w.alloc _=w1 at*;obtain⟨hb1,c0,c1,c2,c3,c4,c5⟩:=HW.out _ rfl;have H1:=jH hb1;clear HW hb1;go_wp2_with fail;go_returns;exact⟨by rw[HE.out];rfl,H1.out⟩):p:=h
theorem OG(c:oK)(w:jJ):jV jI 39 #[c.v] w λe w'=>e=nE (nA (oM c))/\jS w.heap.size w w':=by
 have HW:=jH (wy (w:=w) c (t:=tV));obtain⟨g,hg⟩:=nT w.heap.size;have HR:jW (oM c=(within c.fmt 3&&within c.pO 65536&&within c.qj 65536&&within c.dep 16&&within c.oZ 1024)):=jH rfl;rw[hg]at HW⊢;obtain⟨f,m,fr,un,de,it⟩:=c;unfold oK.v oK.cs;dsimp only at HW HR⊢;by_cases h0:1<=f;case neg=>
  have HE:jW (oM ⟨f,m,fr,un,de,it⟩=false):=jH (by rw[HR.out];unfold within;simp[h0]);exact Aj
 by_cases A:f<=3;case neg=>
  have HE:jW (oM ⟨f,m,fr,un,de,it⟩=false):=jH (by rw[HR.out];unfold within;simp[A]);exact Aj
 by_cases C:1<=fr;case neg=>
  have HE:jW (oM ⟨f,m,fr,un,de,it⟩=false):=jH (by rw[HR.out];unfold within;simp[C]);exact Aj
 by_cases E:fr<=65536;case neg=>
  have HE:jW (oM ⟨f,m,fr,un,de,it⟩=false):=jH (by rw[HR.out];unfold within;simp[E]);exact Aj
 by_cases I:1<=un;case neg=>
  have HE:jW (oM ⟨f,m,fr,un,de,it⟩=false):=jH (by rw[HR.out];unfold within;simp[I]);exact Aj
 by_cases J:un<=65536;case neg=>
  have HE:jW (oM ⟨f,m,fr,un,de,it⟩=false):=jH (by rw[HR.out];unfold within;simp[J]);exact Aj
 by_cases N:1<=de;case neg=>
  have HE:jW (oM ⟨f,m,fr,un,de,it⟩=false):=jH (by rw[HR.out];unfold within;simp[N]);exact Aj
 by_cases O:de<=16;case neg=>
  have HE:jW (oM ⟨f,m,fr,un,de,it⟩=false):=jH (by rw[HR.out];unfold within;simp[O]);exact Aj
 by_cases Q:1<=it;case neg=>
  have HE:jW (oM ⟨f,m,fr,un,de,it⟩=false):=jH (by rw[HR.out];unfold within;simp[Q]);exact Aj
 by_cases U:it<=1024;case neg=>
  have HE:jW (oM ⟨f,m,fr,un,de,it⟩=false):=jH (by rw[HR.out];unfold within;simp[U]);exact Aj
 have HE:jW (oM ⟨f,m,fr,un,de,it⟩=true):=jH (by rw[HR.out];unfold within;simp[h0,A,C,E,I,J,N,O,Q,U]);exact Aj
theorem En(ds:List UInt8)(b:UInt8):zP (ds++[b])=if zP ds<1000000 then 10*zP ds+(b.toNat - 48)else zP ds:=by unfold zP;rw[List.foldl_append];rfl
theorem a2e:∀(k:Nat)(ds:List UInt8),ds.length=k->(∀b,b∈ds->uT b=true)->zP ds<10000000:=by
 intro k;induction k with
 |zero=>intro ds h _;rw[mf.1 h];simp[zP]
 |succ k C=>
  intro ds h hd;obtain⟨A,b,rfl⟩:∃A b,ds=A++[b]:=⟨ds.dropLast,ds.getLast (by intro e;simp[e]at h),(List.dropLast_concat_getLast _).symm⟩;have hb:=hd b nR;simp only[uT,j3,decide_eq_true_eq]at hb;have:=C A (by simpa using h) λc hc=>hd c (by simp[hc])
  rw[En];split<;>omega
theorem I6(l:List UInt8)(k:Nat):∀b,b∈(pY l).take k->uT b=true:=λb hb=>Yu l b (List.mem_of_mem_take hb)
def Dx(s:ByteArray)(p:Nat)(w:jJ)(e:Ending)(w':jJ):Prop:=
 ∃(n:Nat) (z:Int),e=nE (nD #[ng nH (n:Int),ng nH z])/\w'=w/\n<10000000/\
  ((∃q:Nat,xV (nP s p)=some (n,nP s q)/\z=q/\q<=s.size/\p<=q)\/(xV (nP s p)=none/\z= -1/\n=0))
theorem ZK(h:p:=by
 rcases hend with rfl|⟨hlt,hb'⟩|⟨hlt,hb'⟩
 .have d0:decide ((s.size:Int)<s.size)=false:=nR
  go_wp2_with fail;exact HP _ _ ⟨0,_,rfl,rfl,nK,.inr ⟨IZ.out,rfl,rfl⟩⟩
 .have d0:decide ((q:Int)<s.size)=true:=nQ
  have d1:decide ((48:Int)<=(s[q].toNat:Int))=false:=nQ;clear hb';go_wp2_with fail;exact HP _ _ ⟨0,_,rfl,rfl,nK,.inr ⟨IZ.out,rfl,rfl⟩⟩
 .have d0:decide ((q:Int)<s.size)=true:=nQ
  have d1:decide ((48:Int)<=(s[q].toNat:Int))=true:=nQ;have d2:decide ((s[q].toNat:Int)<=57)=false:=nQ;clear hb';go_wp2_with fail;exact HP _ _ ⟨0,_,rfl,rfl,nK,.inr ⟨IZ.out,rfl,rfl⟩⟩):p:=h
theorem Eo(h:p:=by
 go_wp2_with fail;exact HP _ _ ⟨n,_,rfl,rfl,hn,.inl ⟨_,IZ.out,rfl,hq3,hq2⟩⟩):p:=h
theorem Ik(s:ByteArray)(p:Nat)(w:jJ)(hs:s.size<=1000)(hp:p<=s.size):
  jV jI 78 #[ny s,ng nH (p:Int)] w (Dx s p w):=by
 obtain⟨D,hD⟩:=nT ((pY (nP s p)).length);have av:=jH hD;have af:p+D<=s.size:=by
  exact YC
 have HG:jW (∀k,k<D->∃h:p+k<s.size,uT s[p+k]=true/\(pY (nP s p)).take (k+1)=(pY (nP s p)).take k++[s[p+k]]):=jH λk hk=>by
  exact SF
 have ax:jW (∀h:p+D<s.size,uT s[p+D]=false):=jH λh=>by
  refine Eh (nP s p) _ ?_;rw[yB,hD,yV,qU h];rfl
 have ay:jW (past (nP s p)=nP s (p+D)):=jH (by rw[yB,hD,yV]);have H0:jW (0<D->∃h:p<s.size,(pY (nP s p)).head? =some s[p]):=jH λh=>by
  exact YA
 have aI:jW (∀k,zP ((pY (nP s p)).take k)<10000000):=jH λk=>a2e _ _ rfl (I6 _ _)
 generalize az:Dx s p w=aj;have HP:jW (∀e w',Dx s p w e w'->aj e w'):=jH λe w' h=>by rw[<-az];exact h
 clear hD az;go_in;go_wp2_with fail;go_loopw [1,6] (λiv aJ aK=>∃(k q n:Nat),iv=ng nH q/\aJ=ng nH n/\jW (p+k=q)/\q<=p+D/\p<=q/\jW (n=zP ((pY (nP s p)).take k))/\n<10000000/\aK=w) (λiv _ _=>p+D -(kW iv).toNat);case atStart=>exact⟨0,p,0,rfl,rfl,jH rfl,nK,nK,by simp[jW,zP],nK,rfl⟩
 case round=>
  obtain⟨k,q,n,rfl,rfl,V,aA,hq2,ak,hn,rfl⟩:=hrel;have aP:k<=D:=by have:=V.out;omega
  have Q:=jH (HG k);rw[V.out]at Q;by_cases c:q<p+D
  .obtain⟨hlt,Y,htake⟩:=Q.out (by have:=V.out;omega)
   simp only[uT,j3,decide_eq_true_eq]at Y;have ag:=jH (jU Y htake);have d0:decide ((q:Int)<s.size)=true:=nQ;have d1:decide ((48:Int)<=(s[q].toNat:Int))=true:=nQ;have d2:decide ((s[q].toNat:Int)<=57)=true:=nQ;have aL:48<=(s[q].toNat:Int):=nK;have aM:(s[q].toNat:Int)<=57:=nK;have aB:=jH (aI (k+1));clear htake Y Q;by_cases Z:n<1000000
   .have aN:decide ((n:Int)<1000000)=true:=nQ
    have au:=jH Z;clear Z;go_wp2_with fail;have aa:zP ((pY (nP s p)).take (k+1))=10*n+(s[q].toNat - 48):=by rw[ag.2,En,<-ak.out,if_pos au.out]
    refine⟨⟨k+1,q+1,10*n+(s[q].toNat - 48),by go_num,congrArg (lT IntKind.i64) nK,jH (by have:=V.out;omega),nK,nK,jH aa.symm,by have:=aB.out;rw[aa]at this;exact this,by first|trivial|rfl⟩,by simp[kW];omega⟩
   .have aN:decide ((n:Int)<1000000)=false:=nQ
    have au:=jH Z;clear Z;go_wp2_with fail;have aa:zP ((pY (nP s p)).take (k+1))=n:=by rw[ag.2,En,<-ak.out,if_neg au.out]
    refine⟨⟨k+1,q+1,n,by go_num,rfl,jH (by have:=V.out;omega),nK,nK,jH aa.symm,hn,by first|trivial|rfl⟩,by simp[kW];omega⟩
  .obtain rfl:q=p+D:=nK
   obtain rfl:k=D:=by have:=V.out;omega
   obtain⟨q,ae⟩:=nT (p+k);rw[ae]at Q aA hq2 c ay af⊢;have ah:=jH ax.out;rw[ae]at ah;have aC:=jH ae;clear V ax Q ae c;have aD:jW (n=zP (pY (nP s p))):=jH (by rw[ak.out,List.take_of_length_le (by have:=av.out;omega)]);have hend:q=s.size\/(∃h:q<s.size,s[q].toNat<48)\/(∃h:q<s.size,57<s[q].toNat):=by
    rcases lh q s.size with h|h
    .right
     have h2:=ah.out h;exact SE
    .exact .inl nK
   have hlen:k=0\/k=1\/(1<k/\∃h:p<s.size,jW (s[p].toNat=48))\/(1<k/\∃h:p<s.size,jW (s[p].toNat≠48)):=by
    exact YB
   have C:jW (zO (pY (nP s p))=(decide (k=1)||(decide (1<k)&&decide ((pY (nP s p)).head?≠some 48)))):=jH (by rw[NU,av.out]);have A:jW (zO (pY (nP s p))=true->xV (nP s p)=some (n,nP s q)):=jH λh=>by unfold xV;rw[if_pos h,<-aD.out,ay.out]
   have O:jW (zO (pY (nP s p))=false->xV (nP s p)=none):=jH λh=>by unfold xV;rw[if_neg (by rw[h];simp)]
   have hq3:q<=s.size:=af;have aF:(q:Int)=p+k:=by have:=aC.out;omega
   have aG:(∃e1:Bool,((q:Int)==p)=e1/\e1=decide (k=0))/\∃e2:Bool,decide ((p:Int)+1<q)=e2/\e2=decide (1<k):=by
    refine⟨⟨_,rfl,?_⟩,_,rfl,?_⟩;.rw[Bool.eq_iff_iff];simp;omega
    .rw[decide_eq_decide];omega
   obtain⟨⟨e1,aQ,E⟩,e2,aH,I⟩:=aG;have J:k≠0->p<s.size:=nK;clear aF HG;rcases hlen with N|N|⟨N,ai,U⟩|⟨N,ai,U⟩
   .obtain rfl:e1=true:=by rw[E];simp;omega
    have IZ:=jH (O (by rw[C.out];simp;omega));clear E I N C A O aH J;exact ZK
   .obtain rfl:e1=false:=by rw[E];simp;omega
    obtain rfl:e2=false:=by rw[I];simp;omega
    have ai:p<s.size:=J nK;have IZ:=jH (A (by rw[C.out];simp;omega));clear E I N C A O J;rcases Bool.eq_false_or_eq_true ((s[p].toNat:Int)==48)with d5|d5
    all_goals
     rcases hend with rfl|⟨hlt,hb'⟩|⟨hlt,hb'⟩
     .have d0:decide ((s.size:Int)<s.size)=false:=nR
      exact Eo
     .have d0:decide ((q:Int)<s.size)=true:=nQ
      have d1:decide ((48:Int)<=(s[q].toNat:Int))=false:=nQ;clear hb';exact Eo
     .have d0:decide ((q:Int)<s.size)=true:=nQ
      have d1:decide ((48:Int)<=(s[q].toNat:Int))=true:=nQ;have d2:decide ((s[q].toNat:Int)<=57)=false:=nQ;clear hb';exact Eo
   .obtain rfl:e1=false:=by rw[E];simp;omega
    obtain rfl:e2=true:=by rw[I];simp;omega
    have d5:((s[p].toNat:Int)==48)=true:=by have:=U.out;simp;omega
    have IZ:=jH (O (by
     obtain⟨_,h5⟩:=H0.out nK;rw[C.out,h5,show s[p]=48 from lU.1 U.out];simp;omega))
    clear E I N C A O J;exact ZK
   .obtain rfl:e1=false:=by rw[E];simp;omega
    obtain rfl:e2=true:=by rw[I];simp;omega
    have d5:((s[p].toNat:Int)==48)=false:=by have:=U.out;simp;omega
    have IZ:=jH (A (by
     obtain⟨_,h5⟩:=H0.out nK;have aO:s[p]≠48:=λh=>U.out (by rw[h];rfl)
     rw[C.out,h5];simp[aO];omega))
    clear E I N C A O J;rcases hend with rfl|⟨hlt,hb'⟩|⟨hlt,hb'⟩
    .have d0:decide ((s.size:Int)<s.size)=false:=nR
     exact Eo
    .have d0:decide ((q:Int)<s.size)=true:=nQ
     have d1:decide ((48:Int)<=(s[q].toNat:Int))=false:=nQ;clear hb';exact Eo
    .have d0:decide ((q:Int)<s.size)=true:=nQ
     have d1:decide ((48:Int)<=(s[q].toNat:Int))=true:=nQ;have d2:decide ((s[q].toNat:Int)<=57)=false:=nQ;clear hb';exact Eo
def Ak(R:Option (nL TL×List UInt8))(s:ByteArray)(w:jJ)(e:Ending)(w':jJ):Prop:=
 ∃(a:TL) (o:Option l5) (n c:Nat) (z:Int),e=nE (nD #[nC #[ng nH a.kind,ng nH a.size,nk o n c,ng nH a.tail],ng nH z])/\jS w.heap.size w w'/\
  ((∃sub q,R=some (.node a sub,nP s q)/\z=(q:Nat)/\q<=s.size/\TL.wf a/\oh.nX w' (λk=>w.heap.size<=k) (nk o n c) sub)\/(R=none/\z= -1))
theorem Q3{k:Int}(h0:0<=k)(A:k<=100000000):(lJ nH k).wf=true:=by
 exact SI
theorem Il{k z t:Int}(h:(0<=k/\k<=100000000)/\(0<=z/\z<=100000000)/\(0<=t/\t<=100000000)):TL.wf ⟨k,z,t⟩:=⟨Q3 h.1.1 h.1.2,Q3 h.2.1.1 h.2.1.2,Q3 h.2.2.1 h.2.2.2⟩
theorem AO(w:jJ)(Q:Nat->Prop):oh.nX w Q (nk none 0 0) []:=⟨none,0,rfl,jL _,kI _,λh=>absurd h nR⟩
theorem J2(s:ByteArray)(p:Nat):(nP s p).length=s.size - p:=by unfold nP;rw[kS];rfl
theorem FJ(hb:jS gr w0 w)(E:∃cs,nO w gr cs TT/\cs.size=4)(A B C D:jP):
  (qi w gr A B C D).cell? ⟨gr,0,none⟩=some A/\(qi w gr A B C D).cell? ⟨gr,1,none⟩=some B/\(qi w gr A B C D).cell? ⟨gr,2,none⟩=some C/\(qi w gr A B C D).cell? ⟨gr,3,none⟩=some D/\jS gr w0 (qi w gr A B C D):=by
 obtain⟨cs,I,J⟩:=E;have hB:=wK (a:=A) (b:=B) (c:=C) (d:=D) I J;exact⟨hB.cell 0,hB.cell 1,hB.cell 2,hB.cell 3,hb.os,hb.tape,hb.output,kg hb.size (mV yC.symm),λk hk=>(Az k nK).trans (hb.block k hk)⟩
theorem xO{a:Act}{w1:jJ}{g:Nat}{R:Option (nL TL×List UInt8)}{s:ByteArray}{A:Ending->jJ->Prop}(hb:jS g w w1)(J:∃cs,nO w1 g cs TT/\cs.size=4)(t:TL)(o:Option l5)(n c:Nat)(z:Int)(N:Ak R s w=A)(hg:w.heap.size=g)(C:a.tmps.getD 6 kH=nz (some ⟨g,0,none⟩))(E:a.tmps.getD 7 kH=ng nH z)(hd:a.defers=[])(O:(∃sub q,R=some (.node t sub,nP s q)/\z=(q:Nat)/\q<=s.size/\TL.wf t/\oh.nX (qi w1 g (ng nH t.kind) (ng nH t.size) (nk o n c) (ng nH t.tail)) (λk=>w.heap.size<=k) (nk o n c) sub)\/(R=none/\z= -1)):
  bodyPost jI Tryz.f46 A .ret a (qi w1 g (ng nH t.kind) (ng nH t.size) (nk o n c) (ng nH t.tail)):=by
 obtain⟨Q,e1,e2,e3,I⟩:=FJ hb J (ng nH t.kind) (ng nH t.size) (nk o n c) (ng nH t.tail);refine j4 (v:=nD #[nC #[ng nH t.kind,ng nH t.size,nk o n c,ng nH t.tail],ng nH z]) ?_ hd ?_
 .rw[lK]at C E
  simp[kK,Tryz.results46,go_sem,Q,e1,e2,e3,C,E]
 .rw[<-N]
  exact⟨t,o,n,c,z,rfl,hg▸I,O⟩
theorem vB(C:∃cs,nO w gr cs TT/\cs.size=4):(∃x,w.cell? ⟨gr,0,none⟩=some x)/\(∃x,w.cell? ⟨gr,1,none⟩=some x)/\(∃x,w.cell? ⟨gr,2,none⟩=some x)/\(∃x,w.cell? ⟨gr,3,none⟩=some x)/\
  w.frozen? ⟨gr,0,none⟩=false/\w.frozen? ⟨gr,1,none⟩=false/\w.frozen? ⟨gr,2,none⟩=false/\w.frozen? ⟨gr,3,none⟩=false:=by
 obtain⟨⟨l⟩,A,E⟩:=C
 match l,E with
 |[x,y,z,u],_=>exact⟨⟨x,A.cell 0⟩,⟨y,A.cell 1⟩,⟨z,A.cell 2⟩,⟨u,A.cell 3⟩,A.free 0,A.free 1,A.free 2,A.free 3⟩
structure LX(w0:jJ)(gr:Nat)(v:jP)(L:List (qh TL))(t:Nat)(w:jJ):Prop where
 qa:jS gr w0 w
 res:∃cs,nO w gr cs TT/\cs.size=4
 st:VP w (gr+1) v t
 own:vV oh TT w (gr+2) v L
 hlen:L.length<=2000
 ht:t<=2000
 hB:gr+2<=w.heap.size
theorem LX.sub{w':jJ}(h:LX w0 gr v L t w)(hb:jS w.heap.size w w'):LX w0 gr v L t w':=by
 obtain⟨cs,A,C⟩:=h.res;exact⟨h.qa.trans (hb.mono (by have:=h.hB;omega)),⟨cs,Below.blk hb A A.lt,C⟩,Below.blk hb h.st (nO.lt h.st),h.own.below hb,h.hlen,h.ht,kg h.hB hb.size⟩
theorem LX.more(h:LX w0 gr v L t w)(ht:t<2000):LX w0 gr v L (t+1) (w.setCell ⟨gr+1,3,none⟩ (ng nH ((t:Int)+1))):=by
 obtain⟨cs,A,C⟩:=h.res;have E:pE (gr+1) w (w.setCell ⟨gr+1,3,none⟩ (ng nH ((t:Int)+1))):=(pE.refl _ _).set 3 _;exact⟨h.qa.setCell (p:=⟨gr+1,3,none⟩) nR _,⟨cs,A.setOther nR _,C⟩,h.st.more,h.own.upd E nK,h.hlen,nK,by simpa [kC]using h.hB⟩
theorem LX.grown{w':jJ}{v':jP}{y:qh TL}(h:LX w0 gr v L t w)(hL:L.length<2000)(ho:vV oh TT w' (gr+2) v' (L++[y]))(hb:jS (gr+2) w w')(hsz:w.heap.size<w'.heap.size):
  LX w0 gr v' (L++[y]) t (w'.setCell ⟨gr+1,2,none⟩ v'):=by
 obtain⟨cs,A,C⟩:=h.res;have E:pE (gr+1) w' (w'.setCell ⟨gr+1,2,none⟩ v'):=(pE.refl _ _).set 2 _;have hst:VP w' (gr+1) v t:=Below.blk hb h.st nK;exact⟨(h.qa.trans (hb.mono nK)).setCell (p:=⟨gr+1,2,none⟩) nR _,⟨cs,(Below.blk hb A nK).setOther nR _,C⟩,hst.sub v',ho.upd E nK,nQ,h.ht,by simp[kC];have:=h.hB;omega⟩
theorem LX.c0(h:LX w0 gr v L t w):w.cell? ⟨gr+1,0,none⟩=some (ng nH 5)/\w.cell? ⟨gr+1,1,none⟩=some (ng nH 0)/\
  w.cell? ⟨gr+1,2,none⟩=some v/\w.cell? ⟨gr+1,3,none⟩=some (ng nH (t:Int))/\w.frozen? ⟨gr+1,2,none⟩=false/\w.frozen? ⟨gr+1,3,none⟩=false:=by
 have:=h.st;exact⟨nO.cell this 0,nO.cell this 1,nO.cell this 2,nO.cell this 3,nO.free this 2,nO.free this 3⟩
theorem a4I{sub:List (nL TL)}:pz pf (f+1) (125::r) sub t=some (.node ⟨5,0,t⟩ sub,r):=by simp[pz]
theorem a4J{sub:List (nL TL)}:pz pf (f+1) [] sub t=none:=by simp[pz]
theorem ZL{b:UInt8}{sub:List (nL TL)}(hb:b≠125)(hs:sub≠[])(hc:b≠44):pz pf (f+1) (b::r) sub t=none:=by
 have:sub.isEmpty=false:=by cases sub<;>simp_all
 simp[pz,hb,this,hc]
theorem ZM{b:UInt8}(hb:b≠125):pz pf (f+1) (b::r) [] t=(mark (b::r) t).bind λq=>(pf q.1).bind λy=>pz pf f y.2 ([]++[y.1]) q.2:=by
 simp[pz,hb]
theorem a2f{sub:List (nL TL)}(hs:sub≠[]):pz pf (f+1) (44::r) sub t=(mark r t).bind λq=>(pf q.1).bind λy=>pz pf f y.2 (sub++[y.1]) q.2:=by
 have:sub.isEmpty=false:=by cases sub<;>simp_all
 simp[pz,this]
theorem a2g(D:Nat)(s:ByteArray)(p:Nat)(hp:p<s.size)(b:UInt8)(hb:s[p]=b):ps (D+1) (nP s p)=
  if b=117 then(xV (nP s (p+1))).bind λq=>if q.1 % 8=0 then some (.node ⟨1,(q.1/8:Nat),0⟩ [],q.2)else none
  else if b=98 then(xV (nP s (p+1))).bind λq=>some (.node ⟨2,q.1,0⟩ [],q.2)
  else if b=115 then(xV (nP s (p+1))).bind λq=>some (.node ⟨3,q.1,0⟩ [],q.2)
  else if b=91 then(ps D (nP s (p+1))).bind λy=>match y.2 with
    |58::r2=>(xV r2).bind λq=>match q.2 with
     |93::r4=>some (.node ⟨4,q.1,0⟩ [y.1],r4)
     |_=>none
    |_=>none
  else if b=123 then pz (ps D) (s.size - p) (nP s (p+1)) [] 0
  else none:=by
 rw[qU hp,hb];simp only[ps];rw[show(nP s (p+1)).length+1=s.size - p by rw[J2];omega];rfl
theorem a4K(D:Nat)(s:ByteArray)(p:Nat)(hp:s.size<=p):ps (D+1) (nP s p)=none:=by
 rw[si hp];rfl
theorem Tq(h:p:=by
 go_wp2_with fail;rw[oH];exact xO F.qa F.res ⟨0,0,0⟩ none 0 0 (-1) HP hg rfl rfl rfl (.inr ⟨HN.out,rfl⟩)):p:=h
theorem Im(h:p:=by
 have HN:jW (R=none):=jH (by rw[HST.out,Qu.out,kF,h1];rfl);obtain⟨⟨x0,r0⟩,⟨x1,r1⟩,⟨x2,r2⟩,⟨x3,r3⟩,y0,y1,y2,y3⟩:=vB F5.res;clear h1 AX;go_wp2_with fail;rw[oH];exact xO F5.qa F5.res ⟨0,0,0⟩ none 0 0 (-1) HP hg rfl rfl rfl (.inr ⟨HN.out,rfl⟩)):p:=h
theorem Io(h:p:=by
 subst h;have hal:=(jT w4.heap.size w4).alloc (jL _) (nG #[ng nH a.kind,ng nH a.size,nk o n c,ng nH a.tail] TT);exact⟨(F3.sub HB4).sub hal,nO.new w4 _ _,hal⟩):p:=h
theorem Q5(h:p:=by
 clear hout;go_in;go_upto_region 1 with fail;generalize w.alloc (nG #[ng nH 0,ng nH 0,nk none 0 0,ng nH 0] TT)=w1 at*;have G:=jH (HA _ rfl);clear HA;obtain⟨⟨x0,r0⟩,⟨x1,r1⟩,⟨x2,r2⟩,⟨x3,r3⟩,y0,y1,y2,y3⟩:=vB G.2.1;go_wp2_with fail;rw[oH];exact xO G.1 G.2.1 ⟨0,0,0⟩ none 0 0 (-1) HP hg rfl rfl rfl (.inr ⟨HN.out,rfl⟩)):p:=h
theorem Ep(h:p:=by
 go_wp2_with fail;rw[oH];exact xO G3.1 G3.2.1 ⟨0,0,0⟩ none 0 0 (-1) HP hg rfl rfl rfl (.inr ⟨HN.out,rfl⟩)):p:=h
theorem Q6(h:p:=by
 have d7:decide (0<t)=true:=decide_eq_true ht0;have HN:jW (R=none):=jH (by rw[HST.out,LJ.out,if_pos ht0];rfl);clear ht0;go_wp2_with fail;rw[oH];exact xO F.qa F.res ⟨0,0,0⟩ none 0 0 (-1) HP hg rfl rfl rfl (.inr ⟨HN.out,rfl⟩)):p:=h
theorem ZN(h:p:=by
 subst h;have hal:=(jT w.heap.size w).alloc (jL _) (nG #[ng nH 0,ng nH 0,nk none 0 0,ng nH 0] TT);have hb1:=nO.new w #[ng nH 0,ng nH 0,nk none 0 0,ng nH 0] TT;rw[hg]at hal hb1;exact⟨hal,⟨_,hb1,rfl⟩,nQ⟩):p:=h
theorem a2F(h:p:=by
 obtain⟨c0,c1,c2,c3,z2,z3⟩:=F5.c0;obtain⟨q0,q1,q2,q3⟩:=G5.2.1.a4;have HS5:jW (oh.nX w5 (λk=>g+2<=k/\(kM oa M cap).ownBlock≠some k) (nk o n c) sub):=jH (h4.keep G5.2.2.size (λk hk hq=>⟨nK,λe=>by have:=(HOB k e).2;omega⟩) λk hk _=>G5.2.2.block k hk);have HWF:=jH h3;have hB5:g+2<=w5.heap.size:=F5.hB;have HOWN:=jH F5.own;have a4L:M<=1000:=nK;clear h1 h3 h4 AX;go_upto_region 40 with(at_builtin;refine xE (S:=oh) Dm hi hz0 hz1 hz2 rfl nN La rfl (.tmp 181) (.tmp 183) rfl (g+2) (nk oa M cap) L ⟨a,nk o n c,sub⟩ w5 _ rfl rfl HOWN rfl (by have:=HM.out;omega) nN hB5 HWF HS5 ?_;intro g2 cap2 w6 hown6 hb6 ZO a4M;have hcc:w6.cell? ⟨g+1,2,none⟩=some (nk oa M cap):=(hb6.cell (p:=⟨g+1,2,none⟩) (show g+1<g+2 by omega)).trans c2;have hfz:w6.frozen? ⟨g+1,2,none⟩=false:=(hb6.frozen (p:=⟨g+1,2,none⟩) (show g+1<g+2 by omega)).trans z2)
 have F7:=jH (F5.grown (by have:=HM.out;omega) hown6 hb6 ZO);generalize w6.setCell ⟨g+1,2,none⟩ (nk (some ⟨g2,0,none⟩) (L.length+1) cap2)=w7 at*;have HTR:jW ((L++[(⟨a,nk o n c,sub⟩:qh TL)]).map qh.tree=L.map qh.tree++[.node a sub]):=jH (by simp[qh.tree]);have Lu:jW ((L++[(⟨a,nk o n c,sub⟩:qh TL)]).length=M+1):=jH (by rw[jY,HM.out];rfl);obtain⟨L2,hL2⟩:∃L2,L++[(⟨a,nk o n c,sub⟩:qh TL)]=L2:=⟨_,rfl⟩;rw[hL2]at HTR Lu F7;clear hcc hfz hown6 hb6 ZO a4M c0 c1 c2 c3 z2 z3 q0 q1 q2 q3 HOWN HS5 HWF hL2;go_wp2_with fail;have h3:=Lu.out;refine⟨⟨f,p2,t+1,_,L2,rfl,jH F7.out,nK,jH (by rw[HST.out,Qu.out,kF,HPS.out,kF,HTR.out]),nK,nK,h2⟩,?_⟩;simp only[kW,Int.toNat_natCast];omega):p:=h
theorem Ip(h:p:=by
 have:=D5 _ _ _ h1;simp only[J2]at this;omega):p:=h
theorem a2G(h:p:=by
 obtain⟨c0,c1,c2,c3,z2,z3⟩:=F5.c0;obtain⟨q0,q1,q2,q3⟩:=G5.2.1.a4;have HS5:jW (oh.nX w5 (λk=>g+2<=k/\(kM oa M cap).ownBlock≠some k) (nk o n c) sub):=jH (h4.keep G5.2.2.size (λk hk hq=>⟨nK,λe=>by have:=(HOB k e).2;omega⟩) λk hk _=>G5.2.2.block k hk);have HWF:=jH h3;have hB5:g+2<=w5.heap.size:=F5.hB;have HOWN:=jH F5.own;have a4L:M<=1000:=nK;clear h1 h3 h4 AX;go_upto_region 40 with(at_builtin;refine xE (S:=oh) Dm hi hz0 hz1 hz2 rfl nN La rfl (.tmp 181) (.tmp 183) rfl (g+2) (nk oa M cap) L ⟨a,nk o n c,sub⟩ w5 _ rfl rfl HOWN rfl (by have:=HM.out;omega) nN hB5 HWF HS5 ?_;intro g2 cap2 w6 hown6 hb6 ZO a4M;have hcc:w6.cell? ⟨g+1,2,none⟩=some (nk oa M cap):=(hb6.cell (p:=⟨g+1,2,none⟩) (show g+1<g+2 by omega)).trans c2;have hfz:w6.frozen? ⟨g+1,2,none⟩=false:=(hb6.frozen (p:=⟨g+1,2,none⟩) (show g+1<g+2 by omega)).trans z2)
 have F7:=jH (F5.grown (by have:=HM.out;omega) hown6 hb6 ZO);generalize w6.setCell ⟨g+1,2,none⟩ (nk (some ⟨g2,0,none⟩) (L.length+1) cap2)=w7 at*;have HTR:jW ((L++[(⟨a,nk o n c,sub⟩:qh TL)]).map qh.tree=L.map qh.tree++[.node a sub]):=jH (by simp[qh.tree]);have Lu:jW ((L++[(⟨a,nk o n c,sub⟩:qh TL)]).length=M+1):=jH (by rw[jY,HM.out];rfl);obtain⟨L2,hL2⟩:∃L2,L++[(⟨a,nk o n c,sub⟩:qh TL)]=L2:=⟨_,rfl⟩;rw[hL2]at HTR Lu F7;clear hcc hfz hown6 hb6 ZO a4M c0 c1 c2 c3 z2 z3 q0 q1 q2 q3 HOWN HS5 HWF hL2;go_wp2_with fail;have h3:=Lu.out;refine⟨⟨f,p2,0,_,L2,rfl,jH F7.out,nK,jH (by rw[HST.out,Qu.out,kF,HPS.out,kF,HTR.out]),nK,nK,h2⟩,?_⟩;simp only[kW,Int.toNat_natCast];omega):p:=h
theorem Vz(s:ByteArray)(hs:s.size<=1000):∀(D dep p:Nat)(w:jJ),dep+D=9->p<=s.size->
  jV jI 46 #[ny s,ng nH (p:Int),ng nH (dep:Int)] w (Ak (ps D (nP s p)) s w):=by
 intro D;induction D with
 |zero=>
  intro dep p w hd hp;have dz:decide (8<(dep:Int))=true:=nQ;obtain⟨g,hg⟩:=nT w.heap.size;have HA:jW (∀W,w.alloc (nG #[ng nH 0,ng nH 0,nk none 0 0,ng nH 0] TT)=W->jS g w W/\(∃cs,nO W g cs TT/\cs.size=4)/\W.heap.size=g+1):=jH λW h=>by
   exact ZN
  obtain⟨R,aN⟩:=nT (ps (0) (nP s p));have bz:=jH aN;rw[aN];obtain⟨bO,aO⟩:=nT (Ak R s w);have HP:=jH aO;rw[aO];have aP:=jH hd;clear aN aO hd;have HN:jW (R=none):=jH (by rw[<-bz.out];rfl);by_cases hout:s.size<=p
  .have bP:decide (s.size<=p)=true:=decide_eq_true nK
   exact Q5
  .have bP:decide (s.size<=p)=false:=decide_eq_false nK
   exact Q5
 |succ D bU=>
  intro dep p w hd hp;have dz:decide (8<(dep:Int))=false:=nQ;have dA:dep<=8:=nK;obtain⟨g,hg⟩:=nT w.heap.size;have HA:jW (∀W,w.alloc (nG #[ng nH 0,ng nH 0,nk none 0 0,ng nH 0] TT)=W->jS g w W/\(∃cs,nO W g cs TT/\cs.size=4)/\W.heap.size=g+1):=jH λW h=>by
   exact ZN
  obtain⟨R,aN⟩:=nT (ps (D+1) (nP s p));have bz:=jH aN;rw[aN];obtain⟨bO,aO⟩:=nT (Ak R s w);have HP:=jH aO;rw[aO];have aP:=jH hd;clear aN aO hd;have bq:=jH bU;clear bU;by_cases hout:s.size<=p
  .have HN:jW (R=none):=jH (by rw[<-bz.out,a4K D s p hout])
   have bP:decide (s.size<=p)=true:=decide_eq_true nK;exact Q5
  .have bV:p<s.size:=nK
   have bP:decide (s.size<=p)=false:=decide_eq_false nK;have C:=jH (bz.symm.trans (a2g D s p bV s[p] rfl));clear hout bz;have hk:jW (∀c:UInt8,s[p]≠c->((s[p].toNat:Int)==(c.toNat:Int))=false):=jH λc h=>by
    rw[beq_eq_false_iff_ne];intro aQ;exact h (lU.1 nK)
   have ak:jW (∀c:UInt8,s[p]≠c->((s[p].toNat:Int) !=(c.toNat:Int))=true):=jH λc h=>by
    rw[bne_iff_ne];intro aQ;exact h (lU.1 nK)
   go_in;go_upto_region 1 with fail;generalize w.alloc (nG #[ng nH 0,ng nH 0,nk none 0 0,ng nH 0] TT)=w1 at*;have G:=jH (HA _ rfl);clear HA;obtain⟨⟨x0,r0⟩,⟨x1,r1⟩,⟨x2,r2⟩,⟨x3,r3⟩,y0,y1,y2,y3⟩:=vB G.2.1;obtain⟨q,hq⟩:=nT (p+1);have dB:=jH hq;have bA:q<=s.size:=nK;rw[hq]at C;have e1:(p:Int)+1=q:=nK;have bB:=jH e1;clear hq e1;have bW:=jH (Ik s q w1 hs bA);have ax:jW (jV jI 78 #[ny s,ng nH ((p:Int)+1)] w1 (Dx s q w1)):=jH (by rw[bB.out];exact bW);clear bW;by_cases ae:s[p]=117
   .have bC:((s[p].toNat:Int)==117)=true:=by rw[ae];rfl
    have I:=jH C.out;rw[if_pos ae]at I;clear ae C hk ak;go_wp2_with fail;refine(ax).mono ?_;rintro e w2 ⟨n,z,rfl,rfl,hn,A⟩;have HN:=jH hn;rcases A with⟨q2,h1,rfl,h2,h3⟩|⟨h1,rfl,rfl⟩
    .by_cases bI:n % 8=0
     .have dm:((n:Int) % 8 !=0)=false:=nQ
      obtain⟨nd,bL⟩:=nT (n/8);have dO:(n:Int)/8=nd:=nK;have U:jW (R=some (.node ⟨1,(nd:Int),0⟩ [],nP s q2)):=jH (by rw[I.out,h1,kF,if_pos bI,bL]);have bD:nd<=10000000:=nK;have bu:=jH (jU h2 bD);have dC:(0:Int)<=nd:=nK;have dD:(nd:Int)<=10000000:=nK;clear h1 bI bL hn bD;go_wp2_with fail;rw[oH];exact xO G.1 G.2.1 ⟨1,(nd:Int),0⟩ none 0 0 (q2:Int) HP hg rfl rfl rfl (.inl ⟨[],q2,U.out,rfl,bu.1,Il (by have:=bu.2;omega),AO _ _⟩)
     .have dm:((n:Int) % 8 !=0)=true:=FL
      have U:jW (R=none):=jH (by rw[I.out,h1,kF,if_neg bI]);clear h1 bI hn;go_wp2_with fail;rw[oH];exact xO G.1 G.2.1 ⟨0,0,0⟩ none 0 0 (-1) HP hg rfl rfl rfl (.inr ⟨U.out,rfl⟩)
    .have U:jW (R=none):=jH (by rw[I.out,h1];rfl)
     clear h1 hn;go_wp2_with fail;rw[oH];exact xO G.1 G.2.1 ⟨1,0,0⟩ none 0 0 (-1) HP hg rfl rfl rfl (.inr ⟨U.out,rfl⟩)
   have dE:((s[p].toNat:Int)==117)=false:=hk.out 117 ae;have aG:=jH C.out;rw[if_neg ae]at aG;clear ae C;have C:=aG;clear aG;by_cases ay:s[p]=98
   .have bC:((s[p].toNat:Int)==98)=true:=by rw[ay];rfl
    have I:=jH C.out;rw[if_pos ay]at I;clear ay C hk ak;go_wp2_with fail;refine(ax).mono ?_;rintro e w2 ⟨n,z,rfl,rfl,hn,A⟩;have HN:=jH hn;rcases A with⟨q2,h1,rfl,h2,h3⟩|⟨h1,rfl,rfl⟩
    .have U:jW (R=some (.node ⟨2,(n:Int),0⟩ [],nP s q2)):=jH (by rw[I.out,h1];rfl)
     have bu:=jH h2;clear h1 hn;go_wp2_with fail;rw[oH];exact xO G.1 G.2.1 ⟨2,(n:Int),0⟩ none 0 0 (q2:Int) HP hg rfl rfl rfl (.inl ⟨[],q2,U.out,rfl,bu.out,Il (by have:=HN.out;omega),AO _ _⟩)
    .have U:jW (R=none):=jH (by rw[I.out,h1];rfl)
     clear h1 hn;go_wp2_with fail;rw[oH];exact xO G.1 G.2.1 ⟨2,0,0⟩ none 0 0 (-1) HP hg rfl rfl rfl (.inr ⟨U.out,rfl⟩)
   have dP:((s[p].toNat:Int)==98)=false:=hk.out 98 ay;have au:=jH C.out;rw[if_neg ay]at au;clear ay C;have C:=au;clear au;by_cases af:s[p]=115
   .have bC:((s[p].toNat:Int)==115)=true:=by rw[af];rfl
    have I:=jH C.out;rw[if_pos af]at I;clear af C hk ak;go_wp2_with fail;refine(ax).mono ?_;rintro e w2 ⟨n,z,rfl,rfl,hn,A⟩;have HN:=jH hn;rcases A with⟨q2,h1,rfl,h2,h3⟩|⟨h1,rfl,rfl⟩
    .have U:jW (R=some (.node ⟨3,(n:Int),0⟩ [],nP s q2)):=jH (by rw[I.out,h1];rfl)
     have bu:=jH h2;clear h1 hn;go_wp2_with fail;rw[oH];exact xO G.1 G.2.1 ⟨3,(n:Int),0⟩ none 0 0 (q2:Int) HP hg rfl rfl rfl (.inl ⟨[],q2,U.out,rfl,bu.out,Il (by have:=HN.out;omega),AO _ _⟩)
    .have U:jW (R=none):=jH (by rw[I.out,h1];rfl)
     clear h1 hn;go_wp2_with fail;rw[oH];exact xO G.1 G.2.1 ⟨3,0,0⟩ none 0 0 (-1) HP hg rfl rfl rfl (.inr ⟨U.out,rfl⟩)
   have dF:((s[p].toNat:Int)==115)=false:=hk.out 115 af;have aH:=jH C.out;rw[if_neg af]at aH;clear af C;have C:=aH;clear aH;by_cases az:s[p]=91
   .have bC:((s[p].toNat:Int)==91)=true:=by rw[az];rfl
    have I:=jH C.out;rw[if_pos az]at I;have V:jW (jV jI 46 #[ny s,ng nH ((p:Int)+1),ng nH ((dep:Int)+1)] w1 (Ak (ps D (nP s q)) s w1)):=jH (by rw[bB.out];exact bq (dep+1) q w1 (by have:=aP.out;omega) bA);clear az C hk ak ax;go_wp2_with fail;refine(V).mono ?_;rintro e w2 ⟨a,o,n,c,z,rfl,Y,A⟩;have hz1:=G.2.2;have aJ:jW (∀W,w2.alloc (nG #[ng nH a.kind,ng nH a.size,nk o n c,ng nH a.tail] TT)=W->jS g w W/\(∃cs,nO W g cs TT/\cs.size=4)/\nO W w2.heap.size #[ng nH a.kind,ng nH a.size,nk o n c,ng nH a.tail] TT/\jS w2.heap.size w2 W):=jH λW h=>by
     subst h;have hal:=(jT w2.heap.size w2).alloc (jL _) (nG #[ng nH a.kind,ng nH a.size,nk o n c,ng nH a.tail] TT);obtain⟨cs,h1,h2⟩:=G.2.1;have h3:jS g w w2:=G.1.trans (Y.mono nK);exact⟨h3.trans (hal.mono (by have:=Y.size;omega)),⟨cs,Below.blk hal (Below.blk Y h1 nK) (by have:=Y.size;omega),h2⟩,nO.new w2 _ _,hal⟩
    have AX:=jH A;have hz2:g+1<=w2.heap.size:=by have:=Y.size;omega
    clear A Y V x0 r0 x1 r1 x2 r2 x3 r3 y0 y1 y2 y3;go_upto_region 17 with fail;generalize w2.alloc (nG #[ng nH a.kind,ng nH a.size,nk o n c,ng nH a.tail] TT)=w3 at*;have G3:=jH (aJ _ rfl);obtain⟨⟨x0,r0⟩,⟨x1,r1⟩,⟨x2,r2⟩,⟨x3,r3⟩,y0,y1,y2,y3⟩:=vB G3.2.1;obtain⟨dU,dV,dW,dX⟩:=G3.2.2.1.a4;have dQ:g<w3.heap.size:=by have:=G3.2.2.2.size;omega
    clear aJ;rcases AX.out with⟨sub,q2,h1,rfl,h2,h3,h4⟩|⟨h1,rfl⟩
    .have aK:=jH h1
     have bE:jW (TL.wf a/\oh.nX w3 (λk=>g+1<=k) (nk o n c) sub):=jH ⟨h3,h4.keep G3.2.2.2.size (λk _ hk=>by omega) λk hk _=>G3.2.2.2.block k hk⟩;have dR:decide ((q2:Int)<0)=false:=nR;clear h1 h3 h4 AX;by_cases he:s.size<=q2
     .have bQ:decide (s.size<=q2)=true:=decide_eq_true he
      have HN:jW (R=none):=jH (by rw[I.out,aK.out];simp only[kF,si he]);clear he;exact Ep
     .have hlt:q2<s.size:=nK
      have bQ:decide (s.size<=q2)=false:=decide_eq_false he;have aS:=jH (qU hlt);clear he;by_cases aA:s[q2]=58
      .have l2:((s[q2].toNat:Int) !=58)=false:=by rw[aA];rfl
       have aB:jW (R=(xV (nP s (q2+1))).bind λq=>match q.2 with
         |93::r4=>some (.node ⟨4,q.1,0⟩ [.node a sub],r4)
         |_=>none):=jH (by rw[I.out,aK.out];simp only[kF,aS.out,aA])
       have bX:jW (jV jI 78 #[ny s,ng nH ((q2:Int)+1)] w3 (Dx s (q2+1) w3)):=jH (Ik s (q2+1) w3 hs nK);clear aA I aK aS;go_wp2_with fail;refine(bX).mono ?_;rintro e w4 ⟨aR,z2,rfl,rfl,aL,bJ⟩;have bY:=jH aL;rcases bJ with⟨q3,bF,rfl,g2,g3⟩|⟨bF,rfl,rfl⟩
       .have aM:=jH bF
        clear bF;by_cases he:s.size<=q3
        .have d4:decide (s.size<=q3)=true:=decide_eq_true he
         have HN:jW (R=none):=jH (by rw[aB.out,aM.out];simp only[kF,si he]);clear he aL;exact Ep
        .have bR:q3<s.size:=nK
         have d4:decide (s.size<=q3)=false:=decide_eq_false he;have aT:=jH (qU bR);clear he;by_cases aC:s[q3]=93
         .have bG:((s[q3].toNat:Int) !=93)=false:=by rw[aC];rfl
          have U:jW (R=some (.node ⟨4,(aR:Int),0⟩ [.node a sub],nP s (q3+1))):=jH (by rw[aB.out,aM.out];simp only[kF,aT.out,aC]);clear aC aB aT aM aL;have dG:q3<=1000:=nK;go_wp2_with fail;rw[oH];obtain⟨dH,e1,e2,e3,bZ⟩:=FJ G3.1 G3.2.1 (ng nH 4) (ng nH (aR:Int)) (nk (some ⟨w4.heap.size,0,none⟩) 1 1) (ng nH 0);have aI:=wJ (g:=g) (a:=ng nH 4) (b:=ng nH (aR:Int)) (c:=nk (some ⟨w4.heap.size,0,none⟩) 1 1) (d:=ng nH 0) bE.2 (λk hk=>by omega);have cz:=yC (w:=w4) (g:=g) (a:=ng nH 4) (b:=ng nH (aR:Int)) (c:=nk (some ⟨w4.heap.size,0,none⟩) 1 1) (d:=ng nH 0);generalize qi w4 g (ng nH 4) (ng nH (aR:Int)) (nk (some ⟨w4.heap.size,0,none⟩) 1 1) (ng nH 0)=w5 at*;have hal:=(jT w5.heap.size w5).alloc (jL _) (nG #[ng nH a.kind,ng nH a.size,nk o n c,ng nH a.tail] TT);have bM:=nO.new w5 #[ng nH a.kind,ng nH a.size,nk o n c,ng nH a.tail] TT;rw[cz]at bM;have bK:=aI.below hal;have cK:=(hal.cell (p:=⟨g,0,none⟩) (show g<w5.heap.size by omega)).trans dH;have dI:=(hal.cell (p:=⟨g,1,none⟩) (show g<w5.heap.size by omega)).trans e1;have dJ:=(hal.cell (p:=⟨g,2,none⟩) (show g<w5.heap.size by omega)).trans e2;have dK:=(hal.cell (p:=⟨g,3,none⟩) (show g<w5.heap.size by omega)).trans e3;have bS:=bZ.trans (hal.mono nK);generalize w5.alloc (nG #[ng nH a.kind,ng nH a.size,nk o n c,ng nH a.tail] TT)=w6 at*;refine j4 (v:=nD #[nC #[ng nH 4,ng nH (aR:Int),nk (some ⟨w4.heap.size,0,none⟩) 1 1,ng nH 0],ng nH ((q3:Int)+1)]) (by simp[kK,Tryz.results46,go_sem,cK,dI,dJ,dK]) rfl ?_;rw[<-HP.out];exact⟨⟨4,(aR:Int),0⟩,_,1,1,_,rfl,hg▸bS,.inl ⟨_,q3+1,U.out,nR,nK,Il (by have:=bY.out;omega),(NZ (Q:=λk=>g+1<=k) bM bE.1 bK nK).keep (jL _) (λk _ hk=>by omega) λ_ _ _=>rfl⟩⟩
         .have bG:((s[q3].toNat:Int) !=93)=true:=by rw[bne_iff_ne];intro aQ;exact aC (lU.1 (by have:(93:UInt8).toNat=93:=rfl;omega))
          have HN:jW (R=none):=jH (by
           rw[aB.out,aM.out];simp only[kF,aT.out];split;.rename_i r4 e4;exact absurd (List.cons.inj e4).1 aC
           .rfl)
          clear aC aB aT aM aL;exact Ep
       .have HN:jW (R=none):=jH (by rw[aB.out,bF];rfl)
        clear bF aL;exact Ep
      .have l2:((s[q2].toNat:Int) !=58)=true:=by rw[bne_iff_ne];intro aQ;exact aA (lU.1 (by have:(58:UInt8).toNat=58:=rfl;omega))
       have HN:jW (R=none):=jH (by
        rw[I.out,aK.out];simp only[kF,aS.out];split;.rename_i r4 e4;exact absurd (List.cons.inj e4).1 aA
        .rfl)
       clear aA I aK aS;exact Ep
    .have HN:jW (R=none):=jH (by rw[I.out,h1];rfl)
     clear h1 AX;exact Ep
   have dS:((s[p].toNat:Int)==91)=false:=hk.out 91 az;have av:=jH C.out;rw[if_neg az]at av;clear az C;have C:=av;clear av;by_cases ag:s[p]=123
   .have bC:((s[p].toNat:Int) !=123)=false:=by rw[ag];rfl
    have I:=jH C.out;rw[if_pos ag]at I;clear ag C hk ak ax;obtain⟨cK,hi,hz0,hz1,hz2⟩:=info_parts SG;have aJ:jW (∀W,w1.alloc (nG #[ng nH 5,ng nH 0,nk none 0 0,ng nH 0] TT)=W->LX w g (nk none 0 0) [] 0 W):=jH λW h=>by
     subst h;have hz1:=G.2.2;have hal:=(jT w1.heap.size w1).alloc (jL _) (nG #[ng nH 5,ng nH 0,nk none 0 0,ng nH 0] TT);have Y:=nO.new w1 #[ng nH 5,ng nH 0,nk none 0 0,ng nH 0] TT;obtain⟨cs,h1,h2⟩:=G.2.1;rw[hz1]at Y;exact⟨G.1.trans (hal.mono nK),⟨cs,Below.blk hal h1 nK,h2⟩,Y,vV.nil _ _ _ _,nR,nK,nQ⟩
    have hz1:=G.2.2;clear x0 r0 x1 r1 x2 r2 x3 r3 y0 y1 y2 y3;go_wp2_with fail;have cZ:=jH (aJ _ rfl);generalize w1.alloc (nG #[ng nH 5,ng nH 0,nk none 0 0,ng nH 0] TT)=w2 at*;clear aJ G hz1;go_loopw [1,16,17] (λiv _ _ dL=>∃(f k t:Nat) (v:jP) (L:List (qh TL)),iv=ng nH (k:Nat)/\jW (LX w g v L t dL)/\s.size - k<f/\jW (R=pz (ps D) f (nP s k) (L.map qh.tree) t)/\L.length<=k/\t<=L.length/\k<=s.size) (λiv _ _ _=>s.size -(kW iv).toNat);case atStart=>exact⟨s.size - p,q,0,nk none 0 0,[],by rw[bB.out],jH cZ.out,by have:=dB.out;omega,jH (by rw[I.out];rfl),nR,nR,bA⟩
    case round=>
     obtain⟨f,k,t,v,L,rfl,F,dY,ai,df,dh,dw⟩:=hrel;obtain⟨f,rfl⟩:∃dM,f=dM+1:=⟨f - 1,nK⟩;obtain⟨oa,cap,rfl⟩:=F.own.slice;obtain⟨c0,c1,c2,c3,z2,z3⟩:=F.c0;obtain⟨⟨x0,r0⟩,⟨x1,r1⟩,⟨x2,r2⟩,⟨x3,r3⟩,y0,y1,y2,y3⟩:=vB F.res;obtain⟨M,bT⟩:=nT L.length;have HM:=jH bT;rw[bT]at df dh F c2;clear bT cZ I;by_cases he:s.size<=k
     .have bQ:decide (k<s.size)=false:=decide_eq_false nK
      have d4:decide (s.size<=k)=true:=decide_eq_true he;have HN:jW (R=none):=jH (by rw[ai.out,si he,a4J]);clear he;exact Tq
     have hlt:k<s.size:=nK;have bQ:decide (k<s.size)=true:=decide_eq_true hlt;have aU:=jH (qU hlt);by_cases ah:s[k]=125
     .have dN:((s[k].toNat:Int) !=125)=false:=by rw[ah];rfl
      have d4:decide (s.size<=k)=false:=decide_eq_false he;have U:jW (R=some (.node ⟨5,0,(t:Int)⟩ (L.map qh.tree),nP s (k+1))):=jH (by rw[ai.out,aU.out,ah,a4I]);clear he ah;have aI:=F.own.subs;have dx:=jH aI;clear aI;go_wp2_with fail;rw[oH];exact xO F.qa F.res ⟨5,0,(t:Int)⟩ oa M cap ((k:Int)+1) HP hg rfl rfl rfl (.inl ⟨L.map qh.tree,k+1,U.out,nR,nK,Il nK,(wJ dx (λk hk=>by omega)).keep (jL _) (λk _ hk=>by omega) λ_ _ _=>rfl⟩)
     have dN:((s[k].toNat:Int) !=125)=true:=by rw[bne_iff_ne];intro aQ;exact ah (lU.1 (by have:(125:UInt8).toNat=125:=rfl;omega))
     have bN:=jH ah;clear he ah;by_cases h0:M=0
     .have d5:decide (0<M)=false:=decide_eq_false nK
      have HST:jW (R=(mark (nP s k) t).bind λq=>(ps D q.1).bind λy=>pz (ps D) f y.2 (L.map qh.tree++[y.1]) q.2):=jH (by
       have e:L=[]:=mf.1 (HM.trans h0);subst e;rw[ai.out,aU.out];exact ZM bN)
      have aD:k<=s.size:=dw;have aV:k<=k:=jL _;clear ai h0;have aj:jW (oO 63 (nP s (k))=true->mark (nP s (k)) t=some (nP s (k+1),t+1)):=jH λh=>Hq aD h
      have Z:jW (oO 63 (nP s (k))=false->mark (nP s (k)) t=if 0<t then none else some (nP s (k),t)):=jH λh=>K9 h
      have bH:(∃h:k<s.size,jW (s[k]=63))\/(k=s.size)\/(∃h:k<s.size,jW (s[k]≠63)):=by
       rcases lh (k) s.size with h|h
       .by_cases h2:s[k]=63
        .exact .inl ⟨h,h2⟩
        .exact .inr (.inr ⟨h,h2⟩)
       .exact .inr (.inl nK)
      rcases bH with⟨O,J⟩|O|⟨O,J⟩
      .have d6:decide (k<s.size)=true:=decide_eq_true O
       have bG:((s[k].toNat:Int)==63)=true:=by rw[J.out];rfl
       have Qu:=jH (aj (by rw[qU O,J.out];rfl));have ht1:t+1<=M+1:=nK;have aa:k+1<=s.size:=nK;have aW:k<=k+1:=nK;clear aj Z J;go_upto_region 33 with fail;have F3:=jH (F.more nK);generalize wr.setCell ⟨g+1,3,none⟩ (ng nH ((t:Int)+1))=w3 at*;clear c0 c1 c2 c3 z2 z3 x0 r0 x1 r1 x2 r2 x3 r3 y0 y1 y2 y3 F;have V:jW (jV jI 46 #[ny s,ng nH ((k:Int)+1),ng nH ((dep:Int)+1)] w3 (Ak (ps D (nP s (k+1))) s w3)):=jH (bq (dep+1) (k+1) w3 (by have:=aP.out;omega) aa);go_wp2_with fail;refine(V).mono ?_;rintro e w4 ⟨a,o,n,c,z,rfl,E,A⟩;have HB4:=jH E;have aX:g+2<=w3.heap.size:=F3.hB;have aY:w3.heap.size<=w4.heap.size:=E.size;have HOB:=jH F3.own.block;have N:jW (∀W,w4.alloc (nG #[ng nH a.kind,ng nH a.size,nk o n c,ng nH a.tail] TT)=W->LX w g (nk oa M cap) L (t+1) W/\nO W w4.heap.size #[ng nH a.kind,ng nH a.size,nk o n c,ng nH a.tail] TT/\jS w4.heap.size w4 W):=jH λW h=>by
        exact Io
       have AX:=jH A;clear A E V;go_upto_region 37 with fail;generalize w4.alloc (nG #[ng nH a.kind,ng nH a.size,nk o n c,ng nH a.tail] TT)=w5 at*;have G5:=jH (N _ rfl);have F5:=jH G5.1;clear N;rcases AX.out with⟨sub,p2,h1,rfl,h2,h3,h4⟩|⟨h1,rfl⟩
       .have HPS:=jH h1
        have aZ:k+1<p2:=by
         exact Ip
        exact a2F
       .exact Im
      .omega
      .have d6:decide (k<s.size)=true:=decide_eq_true O
       have bG:((s[k].toNat:Int)==63)=false:=by rw[beq_eq_false_iff_ne];intro aQ;exact J (lU.1 (by have:(63:UInt8).toNat=63:=rfl;omega))
       have LJ:=jH (Z (by rw[qU O];simp[oO,J.out]));clear aj Z J;by_cases ht0:0<t;.exact Q6
       .obtain rfl:t=0:=nK
        have Qu:jW (mark (nP s (k)) 0=some (nP s (k),0)):=jH (by rw[LJ.out];rfl);have F3:=jH F.out;have ht1:0<=M+1:=nK;have aa:k<=s.size:=aD;have aW:k<=k:=aV;clear ht0 LJ;go_upto_region 36 with fail;generalize wr=w3 at*;clear c0 c1 c2 c3 z2 z3 x0 r0 x1 r1 x2 r2 x3 r3 y0 y1 y2 y3 F;have V:jW (jV jI 46 #[ny s,ng nH ((k:Int)),ng nH ((dep:Int)+1)] w3 (Ak (ps D (nP s (k))) s w3)):=jH (bq (dep+1) (k) w3 (by have:=aP.out;omega) aa);go_wp2_with fail;refine(V).mono ?_;rintro e w4 ⟨a,o,n,c,z,rfl,E,A⟩;have HB4:=jH E;have aX:g+2<=w3.heap.size:=F3.hB;have aY:w3.heap.size<=w4.heap.size:=E.size;have HOB:=jH F3.own.block;have N:jW (∀W,w4.alloc (nG #[ng nH a.kind,ng nH a.size,nk o n c,ng nH a.tail] TT)=W->LX w g (nk oa M cap) L (0) W/\nO W w4.heap.size #[ng nH a.kind,ng nH a.size,nk o n c,ng nH a.tail] TT/\jS w4.heap.size w4 W):=jH λW h=>by
         exact Io
        have AX:=jH A;clear A E V;go_upto_region 37 with fail;generalize w4.alloc (nG #[ng nH a.kind,ng nH a.size,nk o n c,ng nH a.tail] TT)=w5 at*;have G5:=jH (N _ rfl);have F5:=jH G5.1;clear N;rcases AX.out with⟨sub,p2,h1,rfl,h2,h3,h4⟩|⟨h1,rfl⟩
        .have HPS:=jH h1
         have aZ:k<p2:=by
          exact Ip
         exact a2G
        .exact Im
     .have d5:decide (0<M)=true:=decide_eq_true nK
      have bg:L.map qh.tree≠[]:=by
       intro e;have:=congrArg List.length e;rw[List.length_map,HM.out]at this;exact h0 (by simpa using this)
      by_cases aF:s[k]=44
      .have l2:((s[k].toNat:Int) !=44)=false:=by rw[aF];rfl
       have HST:jW (R=(mark (nP s (k+1)) t).bind λq=>(ps D q.1).bind λy=>pz (ps D) f y.2 (L.map qh.tree++[y.1]) q.2):=jH (by
        rw[ai.out,aU.out,aF];exact a2f bg)
       have aD:k+1<=s.size:=nK;have aV:k<=k+1:=nK;clear ai h0 aF bg;have aj:jW (oO 63 (nP s (k+1))=true->mark (nP s (k+1)) t=some (nP s (k+1+1),t+1)):=jH λh=>Hq aD h
       have Z:jW (oO 63 (nP s (k+1))=false->mark (nP s (k+1)) t=if 0<t then none else some (nP s (k+1),t)):=jH λh=>K9 h
       have bH:(∃h:k+1<s.size,jW (s[k+1]=63))\/(k+1=s.size)\/(∃h:k+1<s.size,jW (s[k+1]≠63)):=by
        rcases lh (k+1) s.size with h|h
        .by_cases h2:s[k+1]=63
         .exact .inl ⟨h,h2⟩
         .exact .inr (.inr ⟨h,h2⟩)
        .exact .inr (.inl nK)
       rcases bH with⟨O,J⟩|O|⟨O,J⟩
       .have d6:decide (k+1<s.size)=true:=decide_eq_true O
        have bG:((s[k+1].toNat:Int)==63)=true:=by rw[J.out];rfl
        have Qu:=jH (aj (by rw[qU O,J.out];rfl));have ht1:t+1<=M+1:=nK;have aa:k+1+1<=s.size:=nK;have aW:k<=k+1+1:=nK;clear aj Z J;go_upto_region 33 with fail;have F3:=jH (F.more nK);generalize wr.setCell ⟨g+1,3,none⟩ (ng nH ((t:Int)+1))=w3 at*;clear c0 c1 c2 c3 z2 z3 x0 r0 x1 r1 x2 r2 x3 r3 y0 y1 y2 y3 F;have V:jW (jV jI 46 #[ny s,ng nH (((k:Int)+1)+1),ng nH ((dep:Int)+1)] w3 (Ak (ps D (nP s (k+1+1))) s w3)):=jH (bq (dep+1) (k+1+1) w3 (by have:=aP.out;omega) aa);go_wp2_with fail;refine(V).mono ?_;rintro e w4 ⟨a,o,n,c,z,rfl,E,A⟩;have HB4:=jH E;have aX:g+2<=w3.heap.size:=F3.hB;have aY:w3.heap.size<=w4.heap.size:=E.size;have HOB:=jH F3.own.block;have N:jW (∀W,w4.alloc (nG #[ng nH a.kind,ng nH a.size,nk o n c,ng nH a.tail] TT)=W->LX w g (nk oa M cap) L (t+1) W/\nO W w4.heap.size #[ng nH a.kind,ng nH a.size,nk o n c,ng nH a.tail] TT/\jS w4.heap.size w4 W):=jH λW h=>by
         exact Io
        have AX:=jH A;clear A E V;go_upto_region 37 with fail;generalize w4.alloc (nG #[ng nH a.kind,ng nH a.size,nk o n c,ng nH a.tail] TT)=w5 at*;have G5:=jH (N _ rfl);have F5:=jH G5.1;clear N;rcases AX.out with⟨sub,p2,h1,rfl,h2,h3,h4⟩|⟨h1,rfl⟩
        .have HPS:=jH h1
         have aZ:k+1+1<p2:=by
          exact Ip
         exact a2F
        .exact Im
       .have d6:decide (k+1<s.size)=false:=decide_eq_false nK
        have LJ:=jH (Z (by rw[si nK];rfl));clear aj Z;by_cases ht0:0<t;.exact Q6
        .obtain rfl:t=0:=nK
         have Qu:jW (mark (nP s (k+1)) 0=some (nP s (k+1),0)):=jH (by rw[LJ.out];rfl);have F3:=jH F.out;have ht1:0<=M+1:=nK;have aa:k+1<=s.size:=aD;have aW:k<=k+1:=aV;clear ht0 LJ;go_upto_region 36 with fail;generalize wr=w3 at*;clear c0 c1 c2 c3 z2 z3 x0 r0 x1 r1 x2 r2 x3 r3 y0 y1 y2 y3 F;have V:jW (jV jI 46 #[ny s,ng nH (((k:Int)+1)),ng nH ((dep:Int)+1)] w3 (Ak (ps D (nP s (k+1))) s w3)):=jH (bq (dep+1) (k+1) w3 (by have:=aP.out;omega) aa);go_wp2_with fail;refine(V).mono ?_;rintro e w4 ⟨a,o,n,c,z,rfl,E,A⟩;have HB4:=jH E;have aX:g+2<=w3.heap.size:=F3.hB;have aY:w3.heap.size<=w4.heap.size:=E.size;have HOB:=jH F3.own.block;have N:jW (∀W,w4.alloc (nG #[ng nH a.kind,ng nH a.size,nk o n c,ng nH a.tail] TT)=W->LX w g (nk oa M cap) L (0) W/\nO W w4.heap.size #[ng nH a.kind,ng nH a.size,nk o n c,ng nH a.tail] TT/\jS w4.heap.size w4 W):=jH λW h=>by
          exact Io
         have AX:=jH A;clear A E V;go_upto_region 37 with fail;generalize w4.alloc (nG #[ng nH a.kind,ng nH a.size,nk o n c,ng nH a.tail] TT)=w5 at*;have G5:=jH (N _ rfl);have F5:=jH G5.1;clear N;rcases AX.out with⟨sub,p2,h1,rfl,h2,h3,h4⟩|⟨h1,rfl⟩
         .have HPS:=jH h1
          have aZ:k+1<p2:=by
           exact Ip
          exfalso;omega
         .exact Im
       .have d6:decide (k+1<s.size)=true:=decide_eq_true O
        have bG:((s[k+1].toNat:Int)==63)=false:=by rw[beq_eq_false_iff_ne];intro aQ;exact J (lU.1 (by have:(63:UInt8).toNat=63:=rfl;omega))
        have LJ:=jH (Z (by rw[qU O];simp[oO,J.out]));clear aj Z J;by_cases ht0:0<t;.exact Q6
        .obtain rfl:t=0:=nK
         have Qu:jW (mark (nP s (k+1)) 0=some (nP s (k+1),0)):=jH (by rw[LJ.out];rfl);have F3:=jH F.out;have ht1:0<=M+1:=nK;have aa:k+1<=s.size:=aD;have aW:k<=k+1:=aV;clear ht0 LJ;go_upto_region 36 with fail;generalize wr=w3 at*;clear c0 c1 c2 c3 z2 z3 x0 r0 x1 r1 x2 r2 x3 r3 y0 y1 y2 y3 F;have V:jW (jV jI 46 #[ny s,ng nH (((k:Int)+1)),ng nH ((dep:Int)+1)] w3 (Ak (ps D (nP s (k+1))) s w3)):=jH (bq (dep+1) (k+1) w3 (by have:=aP.out;omega) aa);go_wp2_with fail;refine(V).mono ?_;rintro e w4 ⟨a,o,n,c,z,rfl,E,A⟩;have HB4:=jH E;have aX:g+2<=w3.heap.size:=F3.hB;have aY:w3.heap.size<=w4.heap.size:=E.size;have HOB:=jH F3.own.block;have N:jW (∀W,w4.alloc (nG #[ng nH a.kind,ng nH a.size,nk o n c,ng nH a.tail] TT)=W->LX w g (nk oa M cap) L (0) W/\nO W w4.heap.size #[ng nH a.kind,ng nH a.size,nk o n c,ng nH a.tail] TT/\jS w4.heap.size w4 W):=jH λW h=>by
          exact Io
         have AX:=jH A;clear A E V;go_upto_region 37 with fail;generalize w4.alloc (nG #[ng nH a.kind,ng nH a.size,nk o n c,ng nH a.tail] TT)=w5 at*;have G5:=jH (N _ rfl);have F5:=jH G5.1;clear N;rcases AX.out with⟨sub,p2,h1,rfl,h2,h3,h4⟩|⟨h1,rfl⟩
         .have HPS:=jH h1
          have aZ:k+1<p2:=by
           exact Ip
          exact a2G
         .exact Im
      .have l2:((s[k].toNat:Int) !=44)=true:=by rw[bne_iff_ne];intro aQ;exact aF (lU.1 (by have:(44:UInt8).toNat=44:=rfl;omega))
       have HN:jW (R=none):=jH (by rw[ai.out,aU.out,ZL bN.out bg aF]);clear ai h0 aF bg;exact Tq
   .have bC:((s[p].toNat:Int) !=123)=true:=by
     have:=ak.out 123 ag;exact this
    have I:=jH C.out;rw[if_neg ag]at I;clear ag C hk ak ax;go_wp2_with fail;rw[oH];exact xO G.1 G.2.1 ⟨0,0,0⟩ none 0 0 (-1) HP hg rfl rfl rfl (.inr ⟨I.out,rfl⟩)
def OH(l:List UInt8)(w:jJ)(e:Ending)(w':jJ):Prop:=
 ∃(a:TL) (o:Option l5) (n c:Nat) (er:Int) (sub:List (nL TL)),e=nE (nD #[nC #[ng nH a.kind,ng nH a.size,nk o n c,ng nH a.tail],ng nH er])/\jS w.heap.size w w'/\TL.wf a/\oL w' (nk o n c) sub/\
  (BM l=some (.node a sub)/\er=0\/BM l=none/\er=3/\a=⟨0,0,0⟩/\sub=[])
theorem Q7(h:ps 8 l=none):BM l=none:=by unfold BM;rw[h]
theorem Q8(h:ps 8 l=some (x,r))(A:r≠[]):BM l=none:=by
 unfold BM;rw[h];cases r with
 |nil=>exact absurd rfl A
 |cons _ _=>rfl
theorem VA(h:ps 8 l=some (x,[])):BM l=if pX x then some x else none:=by unfold BM;rw[h]
theorem OI(h:∀l y,pf l=some y->y.1.count+y.2.length<=l.length):
  ∀(g:Nat)(l:List UInt8)(sub:List (nL TL))(tail:Nat)(y:nL TL×List UInt8),pz pf g l sub tail=some y->y.1.count+y.2.length<=l.length+nL.nW sub:=by
 intro g;induction g with
 |zero=>intro l sub tail y A;simp[pz]at A
 |succ g E=>
  intro l sub tail y A;cases l with
  |nil=>simp[pz]at A
  |cons b r=>
   simp only[pz]at A;split at A
   .cases A
    simp only[nL.count,kD];omega
   .simp only[kr]at A
    obtain⟨I,C,q,J,x,N,O⟩:=A;have Q:=E _ _ _ _ O;have a2:=h _ _ N;have a3:=zQ J;have a4:I.length<=(b::r).length:=by
     split at C;.cases C;exact jL _
     .split at C
      .cases C;simp
      .cases C
    simp only[nL.rZ,nL.nW]at Q;omega
theorem Tt(h:p:=by
 simp only[kr]at h;obtain⟨q,h1,h2⟩:=h;have:=sI h1;cases h2;simp[nL.count,nL.nW];omega):p:=h
theorem ZP:∀(d:Nat)(l:List UInt8)(y:nL TL×List UInt8),ps d l=some y->y.1.count+y.2.length<=l.length:=by
 intro d;induction d with
 |zero=>intro l y h;simp[ps]at h
 |succ d C=>
  intro l y h;cases l with
  |nil=>simp[ps]at h
  |cons b r=>
   simp only[ps]at h;split at h
   .simp only[kr]at h
    obtain⟨q,h1,h2⟩:=h;have:=sI h1;split at h2;.cases h2;simp[nL.count,nL.nW];omega
    .cases h2
   split at h;.exact Tt
   split at h;.exact Tt
   split at h
   .simp only[kr]at h
    obtain⟨x,h1,h2⟩:=h;have E:=C _ _ h1;split at h2
    .rename_i r2 e
     simp only[kr]at h2;obtain⟨q,I,A⟩:=h2;have a2:=sI I;rw[e]at E;split at A
     .rename_i r4 e4
      cases A;rw[e4]at a2;simp only[kD,nL.count,nL.nW]at E a2⊢;omega
     .cases A
    .cases h2
   split at h
   .have:=OI C _ _ _ _ _ h
    simp only[kD,nL.nW]at this⊢;omega
   .cases h
theorem Q9(h:p:=by
 refine j4 (v:=nD #[nC #[ng nH 0,ng nH 0,nk none 0 0,ng nH 0],ng nH 3]) (by simp[kK,Tryz.results21,go_sem,e0,e1,e2,e3]) rfl ?_;exact hpost):p:=h
theorem a2h(s:ByteArray)(w:jJ)(hs:s.size<=1000):
  jV jI 21 #[ny s] w (OH s.data.toList w):=by
 obtain⟨g,hg⟩:=nT w.heap.size;have aO:jW (∀W,w.alloc (nG #[ng nH 0,ng nH 0,nk none 0 0,ng nH 0] TT)=W->jS g w W/\nO W g #[ng nH 0,ng nH 0,nk none 0 0,ng nH 0] TT/\W.heap.size=g+1):=jH λW h=>by
  subst h;have ax:=(jT w.heap.size w).alloc (jL _) (nG #[ng nH 0,ng nH 0,nk none 0 0,ng nH 0] TT);have ay:=nO.new w #[ng nH 0,ng nH 0,nk none 0 0,ng nH 0] TT;rw[hg]at ax ay;exact⟨ax,ay,nQ⟩
 obtain⟨aF,aG⟩:=nT (OH s.data.toList w);have aP:=jH aG;rw[aG];clear aG;go_in;go_upto_region 1 with fail;generalize w.alloc (nG #[ng nH 0,ng nH 0,nk none 0 0,ng nH 0] TT)=w1 at*;have U:=jH (aO _ rfl);have aQ:jW (jV jI 46 #[ny s,ng nH 0,ng nH 1] w1 (Ak (ps 8 (nP s 0)) s w1)):=jH (Vz s hs 8 1 0 w1 rfl (kI _));clear aO;go_wp2_with fail;refine(aQ).mono ?_;rintro e w2 ⟨a,o,n,c,z,rfl,V,Z⟩;have aV:g+1<=w2.heap.size:=by have:=V.size;have:=U.2.2;omega
 have az:jW (jS g w w2/\nO w2 g #[ng nH 0,ng nH 0,nk none 0 0,ng nH 0] TT):=jH ⟨U.1.trans (V.mono (by have:=U.2.2;omega)),Below.blk V U.2.1 U.2.1.lt⟩;have E:jW ((∃sub q,ps 8 s.data.toList=some (.node a sub,nP s q)/\z=(q:Nat)/\q<=s.size/\TL.wf a/\oh.nX w2 (λk=>g+1<=k) (nk o n c) sub)\/(ps 8 s.data.toList=none/\z= -1)):=jH (by
  rcases Z with⟨sub,q,I,aW,aH,aa,ae⟩|h
  .exact .inl ⟨sub,q,I,aW,aH,aa,ae.keep (jL _) (λk _ hk=>by have:=U.2.2;omega) λ_ _ _=>rfl⟩
  .exact .inr h)
 have aA:jW (∀W,w2.alloc (nG #[ng nH a.kind,ng nH a.size,nk o n c,ng nH a.tail] TT)=W->jS w2.heap.size w2 W/\nO W w2.heap.size #[ng nH a.kind,ng nH a.size,nk o n c,ng nH a.tail] TT/\W.heap.size=w2.heap.size+1):=jH λW h=>by
  subst h;exact⟨(jT w2.heap.size w2).alloc (jL _) _,nO.new w2 _ _,nR⟩
 clear V Z aQ U;go_upto_region 2 with fail;generalize w2.alloc (nG #[ng nH a.kind,ng nH a.size,nk o n c,ng nH a.tail] TT)=w3 at*;obtain⟨J,aB,aR⟩:=aA.out _ rfl
 have A:jW (jS g w w3/\nO w3 g #[ng nH 0,ng nH 0,nk none 0 0,ng nH 0] TT/\nO w3 w2.heap.size #[ng nH a.kind,ng nH a.size,nk o n c,ng nH a.tail] TT/\jS w2.heap.size w2 w3):=
  jH ⟨az.1.trans (J.mono nK),Below.blk J az.2 nK,aB,J⟩
 have aI:w2.heap.size<w3.heap.size:=nK;clear aA J aB aR;obtain⟨aJ,aK,aL,aM⟩:=A.2.2.1.a4;obtain⟨r0,r1,r2,r3,aj,ak,y2,au⟩:=A.2.1.b4
 have N:jW (∀W,jS g w W->(∃cs,nO W g cs TT/\cs.size=4)->BM s.data.toList=none->(qi W g (ng nH 0) (ng nH 0) (nk none 0 0) (ng nH 0)).cell? ⟨g,0,none⟩=some (ng nH 0)/\(qi W g (ng nH 0) (ng nH 0) (nk none 0 0) (ng nH 0)).cell? ⟨g,1,none⟩=some (ng nH 0)/\
   (qi W g (ng nH 0) (ng nH 0) (nk none 0 0) (ng nH 0)).cell? ⟨g,2,none⟩=some (nk none 0 0)/\(qi W g (ng nH 0) (ng nH 0) (nk none 0 0) (ng nH 0)).cell? ⟨g,3,none⟩=some (ng nH 0)/\
   aF (nE (nD #[nC #[ng nH 0,ng nH 0,nk none 0 0,ng nH 0],ng nH 3])) (qi W g (ng nH 0) (ng nH 0) (nk none 0 0) (ng nH 0))):=jH λW aX hB aY=>by
  obtain⟨e0,e1,e2,e3,af⟩:=FJ aX hB (ng nH 0) (ng nH 0) (nk none 0 0) (ng nH 0);refine⟨e0,e1,e2,e3,?_⟩;rw[<-aP.out];exact⟨⟨0,0,0⟩,none,0,0,3,[],rfl,hg▸af,JG nK,AO _ _,.inr ⟨aY,rfl,rfl,rfl⟩⟩
 rcases E.out with⟨sub,q,I,rfl,aH,aa,ae⟩|⟨I,rfl⟩
 .by_cases C:q=s.size
  .have aS:((q:Int) !=s.size)=false:=by simp[C]
   have ag:ps 8 s.data.toList=some (.node a sub,[]):=by rw[I,si nK]
   have Y:=jH (VA ag);have aT:=jH aa;have aC:jW (oh.nX w3 (λk=>g+1<=k) (nk o n c) sub):=jH (ae.keep A.2.2.2.size (λ_ _ h=>h) λk hk _=>A.2.2.2.block k hk);have aD:=ZP _ _ _ ag;have aU:s.data.toList.length=s.size:=rfl;have ah:=jH (RO (.node a sub) w3 (nk o n c) (aC.keep (jL _) (λ_ _ _=>trivial) λ_ _ _=>rfl) (by simp only[List.length_nil]at aD;omega));have aZ:=jH C;clear I ag aa ae C E aD aU;simp only[nL.oQ]at ah;have ai:jW (∀W,jS w3.heap.size w3 W->jS g w W/\(∃cs,nO W g cs TT/\cs.size=4)/\oh.nX W (λk=>g+1<=k) (nk o n c) sub/\nO W g #[ng nH 0,ng nH 0,nk none 0 0,ng nH 0] TT/\nO W w2.heap.size #[ng nH a.kind,ng nH a.size,nk o n c,ng nH a.tail] TT):=jH λW h=>
    ⟨A.1.trans (h.mono nK),⟨_,Below.blk h A.2.1 nK,rfl⟩,aC.below h,Below.blk h A.2.1 nK,Below.blk h A.2.2.1 aI⟩
   cases av:pX (.node a sub)with
   |false=>
    rw[av]at ah Y;clear av;go_wp2_with fail;refine(ah).mono ?_;rintro e w4 ⟨rfl,Q⟩;have O:=jH (ai w4 Q);clear Q r0 r1 r2 r3 aj ak y2 au aJ aK aL aM;obtain⟨⟨bg,r0⟩,⟨bq,r1⟩,⟨bu,r2⟩,⟨bz,r3⟩,aj,ak,y2,au⟩:=vB O.2.1;go_wp2_with fail;rw[oH];obtain⟨e0,e1,e2,e3,hpost⟩:=N.out w4 O.1 O.2.1 (by rw[Y.out];rfl);exact Q9
   |true=>
    rw[av]at ah Y;clear av;go_wp2_with fail;refine(ah).mono ?_;rintro e w4 ⟨rfl,Q⟩;have O:=jH (ai w4 Q);clear Q r0 r1 r2 r3 aj ak y2 au aJ aK aL aM;obtain⟨⟨bg,r0⟩,⟨bq,r1⟩,⟨bu,r2⟩,⟨bz,r3⟩,aj,ak,y2,au⟩:=vB O.2.1;obtain⟨aJ,aK,aL,aM⟩:=O.2.2.2.2.a4;go_wp2_with fail;rw[oH];obtain⟨e0,e1,e2,e3,af⟩:=FJ O.1 O.2.1 (ng nH a.kind) (ng nH a.size) (nk o n c) (ng nH a.tail);refine j4 (v:=nD #[nC #[ng nH a.kind,ng nH a.size,nk o n c,ng nH a.tail],ng nH 0]) (by simp[kK,Tryz.results21,go_sem,e0,e1,e2,e3]) rfl ?_;rw[<-aP.out];exact⟨a,o,n,c,0,sub,rfl,hg▸af,aT.out,(wJ O.2.2.1 (λk hk=>by omega)).keep (jL _) (λ_ _ _=>trivial) (λ_ _ _=>rfl),.inl ⟨by rw[Y.out];rfl,rfl⟩⟩
  .have aS:((q:Int) !=s.size)=true:=FL
   have aN:jW (BM s.data.toList=none):=jH (Q8 I λh=>C (JE aH h));clear C E I aa ae;go_wp2_with fail;rw[oH];obtain⟨e0,e1,e2,e3,hpost⟩:=N.out w3 A.1 ⟨_,A.2.1,rfl⟩ aN.out;exact Q9
 .have aS:((-1:Int) !=s.size)=true:=FL
  have aN:jW (BM s.data.toList=none):=jH (Q7 I);clear E I;go_wp2_with fail;rw[oH];obtain⟨e0,e1,e2,e3,hpost⟩:=N.out w3 A.1 ⟨_,A.2.1,rfl⟩ aN.out;exact Q9
end
end Go.Proofs.YtamfcjmhnndbdaaGreatDoor


