/- Part 12 of the proof. -/
import Derived.Test.YtamfcjmhnndbdaaGreatDoorZk00
import Derived.Test.YtamfcjmhnndbdaaGreatDoorZk08
import Derived.Test.YtamfcjmhnndbdaaGreatDoorZk09
import Derived.Test.YtamfcjmhnndbdaaGreatDoorZk11
open Go.Value renaming agg→lC,bool→lu,int→lg,pointer→lq,slice→lh,string→ll,tuple→lD
open Go.Obj renaming cells→lG
open Go.IntKind renaming i64→lH,u64→lI
open Go.Ending renaming returned→lF,returned→jP
open Go.Lib renaming hid→iF
open Go.Proofs.Tryz renaming prog→iG
open Go renaming World→iH,Value→iJ,Calls→iU,bodyPost_ret→iV,maxLen→jb,TypeId→jg,undef→jo,results→jr,Addr→kr,Oper→kH
open Nat renaming le_refl→iI,le_trans→je,lt_of_lt_of_le→jq,zero_le→jy,le_succ→jF,le_of_eq→kX
open Go.RowKit renaming Below→iK,Hid→iW,intOf→jA
open Go.RowKit.Below renaming refl→iL
open List renaming getElem?_cons_succ→iM,setIfInBounds_toArray→iN,getElem?_cons_zero→iO,getElem?_toArray→iP,set_cons_zero→iR,set_cons_succ→iT,getElem?_eq_getElem→iZ,mem_of_getElem?→jc,take_succ_cons→ji,length_append→jv,take_zero→jC,getElem?_eq_some_iff→jH,replicate→jY
open And renaming intro→iQ
open Bool renaming and_eq_true→iY,false_eq_true→j4
open ByteArray renaming size_extract→ja
open Go.World renaming setCell→jf,cell?→kZ
open Go.Code renaming region→jJ
open Array renaming getElem?_modify→jK
open Go.Act renaming put→jZ
open Go.Instr renaming makeFunc→kL
namespace Go.Proofs.YtamfcjmhnndbdaaGreatDoor
set_option linter.unusedVariables false
set_option linter.unusedSimpArgs false
set_option maxRecDepth 100000
set_option maxHeartbeats 8000000
variable {p:Prop}
section
open Go.RowKit
structure QZ(g cb lb fb:Nat)(r:RS)(l:Nat)(w0:iH)(xo:Option kr)(xc:Nat)(L:List (nJ IL))(W:iH):Prop where
 ly:yV cb lb fb r l W
 rb:lN W g (Ce cb lb fb) Cw
 rs:lN W (g+1) #[ll ⟨#[]⟩,lu false,lh none 0 0] IT
 xb:lN W (g+2) #[ll ⟨#[]⟩,lu true,lh xo L.length xc] IT
 own:qm W (λc=>g+3<=c) (lh xo L.length xc) L
 up:mH cb lb w0 W
 lt:cb<g/\lb<g/\fb<g/\w0.heap.size=g/\0<g
section
variable {g cb lb fb:Nat}{r r':RS}{l l':Nat}{w0 W W':iH}{xo:Option kr}{xc:Nat}{L:List (nJ IL)}
theorem QZ.below(h:QZ g cb lb fb r l w0 xo xc L W)(hb:iK W.heap.size W W'):QZ g cb lb fb r l w0 xo xc L W':=
 ⟨h.ly.below hb,Below.blk hb h.rb h.rb.lt,Below.blk hb h.rs h.rs.lt,Below.blk hb h.xb h.xb.lt,qm.keep h.own hb.size (λc hc _=>hb.block c hc) λ_ _ h=>h,h.up.trans (mH.of hb),h.lt⟩
theorem Ni(h:QZ g cb lb fb r l w0 xo xc L W):lN (nA W (g+1) (ll ⟨#[]⟩) (lu true) (lh xo L.length xc)) (g+1) #[ll ⟨#[]⟩,lu true,lh xo L.length xc] IT/\
  yV cb lb fb r l (nA W (g+1) (ll ⟨#[]⟩) (lu true) (lh xo L.length xc))/\lX (nA W (g+1) (ll ⟨#[]⟩) (lu true) (lh xo L.length xc)) (λc=>g<=c) (lh xo L.length xc) (L.map nJ.tree)/\
  mH cb lb w0 (nA W (g+1) (ll ⟨#[]⟩) (lu true) (lh xo L.length xc)):=by
 have J:=h.lt;have C:∀c,c≠g+1->(nA W (g+1) (ll ⟨#[]⟩) (lu true) (lh xo L.length xc)).heap[c]? =W.heap[c]? :=λc hc=>by
  simp[nA,jf,jK,Ne.symm hc]
 have hs:(nA W (g+1) (ll ⟨#[]⟩) (lu true) (lh xo L.length xc)).heap.size=W.heap.size:=by simp[nA,jf]
 have o:∀{c:Nat}{cs:Array iJ}{t:jg},lN W c cs t->c≠g+1->lN (nA W (g+1) (ll ⟨#[]⟩) (lu true) (lh xo L.length xc)) c cs t:=λh hn=>by unfold lN at*;rw[C _ hn];exact h
 have A:=h.ly;refine⟨((h.rs.set 0 _).set 1 _).set 2 _,⟨o A.rd lK,A.ok,o A.lf lK,o A.fr lK,?_,A.ne⟩,?_,?_⟩
 .have key:∀i,(nA W (g+1) (ll ⟨#[]⟩) (lu true) (lh xo L.length xc)).cell? ⟨0,i,none⟩=W.cell? ⟨0,i,none⟩:=λi=>by
   simp only[kZ,C 0 lK]
  exact⟨(key 0).trans A.tab.a,(key 1).trans A.tab.b,(key 2).trans A.tab.c⟩
 .have q:=qm.subs h.own
  refine Shape.lY.keep (by simpa using q) (kX hs.symm) (λc _ hc=>by have:g+3<=c:=hc;show g<=c;omega) λc _ hc=>C c (by have:g+3<=c:=hc;omega)
 .exact⟨h.up.os,h.up.tape,h.up.output,by rw[hs];exact h.up.size,λc hc hb E=>(C c lK).trans (h.up.block c hc hb E)⟩
theorem QZ.of7{kb wk:Nat}{r2:RS}{l2:Nat}{k z:Int}{ou:Option kr}{nu cu:Nat}{tl:Int}{ts:List (lL TL)}{x:lL IL}{v4 v5 v6:iJ}(h:L7 g cb lb fb kb wk r r2 l l2 k z ou nu cu tl ts xo xc L x w0 true true true true v4 v5 v6 W):
  ∃(e:nJ IL) (go:Option kr) (gc:Nat),e.tree=x/\QZ g cb lb fb r2 l2 w0 go gc (L++[e]) W:=by
 obtain⟨e,e1,e2,go,gc,e3,e4⟩:=h.fin rfl;have A:=h.lt;subst e3;have hl:(L++[e]).length=L.length+1:=lU;refine⟨e,some ⟨go,0,none⟩,gc,by unfold nJ.tree;rw[e1,e2];exact lL.eta x,⟨h.ly,h.rb,h.rs,?_,?_,h.up,lK⟩⟩;.rw[hl];exact h.xb
 .rw[hl];exact e4
theorem QZ.to7(h:QZ g cb lb fb r l w0 xo xc L W){wk:Nat}(r2:RS)(l2:Nat)(k z:Int)(ou:Option kr)(nu cu:Nat)(tl:Int)(ts:List (lL TL))(x:lL IL)(E:l9.lY W (QY cb lb) (lh ou nu cu) ts)(hL:L.length<=100000)(N:x.lab.text.length<=jb)(C:W.heap.size=wk)(v4 v5 v6:iJ):
  L7 g cb lb fb wk wk r r2 l l2 k z ou nu cu tl ts xo xc L x w0 false false false false v4 v5 v6 (W.alloc (lG #[lg lH k,lg lH z,lh ou nu cu,lg lH tl] pV)):=by
 have hb:=(iL W.heap.size W).alloc (iI _) (lG #[lg lH k,lg lH z,lh ou nu cu,lg lH tl] pV);have A:=h.lt;have O:=h.xb.lt;have q:=h.below hb;have hn:=lN.new W #[lg lH k,lg lH z,lh ou nu cu,lg lH tl] pV;rw[C]at hn;exact⟨q.ly,q.rb,q.rs,q.xb,λ_=>⟨hn,lW,Shape.lY.below E hb⟩,λ_=>⟨q.own,λb J=>C▸(h.own.1.block b J).2.1⟩,(λh=>by cases h),(λh=>by cases h),q.up,⟨A.1,A.2.1,A.2.2.1,lK,hL,N,A.2.2.2.1,A.2.2.2.2⟩⟩
end
theorem Ul(h:p:=by
 subst hW;have a1:=(iL w.heap.size w).alloc (iI _) (lG (Ce cb lb fb) Cw);have a2:=a1.alloc lU (lG #[ll ⟨#[]⟩,lu false,lh none 0 0] IT);have a3:=a2.alloc lW (lG #[ll ⟨#[]⟩,lu true,lh none 0 0] IT);have k1:=lN.new w (Ce cb lb fb) Cw;have k2:=lN.new (w.alloc (lG (Ce cb lb fb) Cw)) #[ll ⟨#[]⟩,lu false,lh none 0 0] IT;have k3:=lN.new ((w.alloc (lG (Ce cb lb fb) Cw)).alloc (lG #[ll ⟨#[]⟩,lu false,lh none 0 0] IT)) #[ll ⟨#[]⟩,lu true,lh none 0 0] IT;rw[show(w.alloc (lG (Ce cb lb fb) Cw)).heap.size=g+1 by simp[hg]]at k2;rw[show((w.alloc (lG (Ce cb lb fb) Cw)).alloc (lG #[ll ⟨#[]⟩,lu false,lh none 0 0] IT)).heap.size=g+2 by simp[hg]]at k3;rw[hg]at k1;exact⟨hI.below a3,(k1.alloc _).alloc _,k2.alloc _,k3,qm.nil _ _,mH.of a3,⟨lK,lK,lK,hg,hg▸hI.tab.lt⟩⟩):p:=h
theorem Yu(h:p:=by
 obtain⟨k,r',l',xo,xc,L,rfl,hk,HJ⟩:=hrel;by_cases c:k<n
 .obtain⟨t,ht⟩:∃t,ts[k]? =some t:=⟨_,iZ (by rw[HN.out];exact c)⟩
  have hdr:ts.drop k=t::ts.drop (k+1):=by
   obtain⟨h1,h2⟩:=jH.1 ht;rw[List.drop_eq_getElem_cons h1,h2]
  have HST:iW (nE f (ts.drop k) r' l'=if(t.2=true\/r'.p<r'.t.size)/\r'.f=0 then((f t.1 r' l').1::(nE f (ts.drop (k+1)) (f t.1 r' l').2.1 (f t.1 r' l').2.2).1,(nE f (ts.drop (k+1)) (f t.1 r' l').2.1 (f t.1 r' l').2.2).2)else([],r',l')):=iF (by rw[hdr];rfl);have CO:=iF (HOF.out wr r' l' HJ.out.1.up HJ.out.1.ly k t ht);have HM:iW (t∈ts):=iF (jc ht);clear ht hdr;have HJ1:=iF HJ.out.1;have HLY:=iF HJ.out.2;clear HJ;go_wp2_with fail;refine CO.out.mono ?_;rintro e w2 ⟨ou,cu,rfl,hs,hb⟩;have HJ2:=iF (HJ1.out.below hb);have HS:=iF hs;clear hb hs CO HJ1;have HFD:∀W,tT W cb r'->_:=λW h=>nR cb r' W h
  obtain⟨b,hbb⟩:=lV ((t.2||decide (r'.p<r'.t.size)));have HB:=iF hbb;rw[hbb];clear hbb;cases b with
  |false=>
   have MN:iW (Y=(L.map nJ.tree,r',l')):=iF (by
    rw[HLY.out.2,HST.out,if_neg];.simp
    .intro h
     have h2:=HB.out;simp only[Bool.or_eq_false_iff,decide_eq_false_iff_not]at h2;rcases h.1 with h3|h3
     .rw[h3]at h2;cases h2.1
     .exact h2.2 h3)
   go_upto_region 6 with fail;have hJ3:=HJ2.out.below ((iL _ _).alloc (iI _) (lG #[lg lH t.1.lab.kind,lg lH t.1.lab.size,lh ou t.1.sub.length cu,lg lH t.1.lab.tail] pV));generalize w2.alloc _=w3 at*;have Nj:=iF hJ3;clear hJ3 HJ2 HS;obtain⟨x0,x1,x2⟩:=Nj.out.xb.a3;obtain⟨y0,y1,y2,z0,z1,z2⟩:=Nj.out.rs.b3;go_wp2_with fail;rw[nO];obtain⟨hb,hl,hs,hu⟩:=Ni Nj.out;obtain⟨d0,d1,d2⟩:=hb.a3;refine iV (v:=lC #[ll ⟨#[]⟩,lu true,lh xo L.length xc]) (by simp[jr,Tryz.results249,go_sem,d0,d1,d2]) rfl ?_;rw[MN.out];exact⟨xo,xc,lU,hl,by rw[hg];simpa using hs,hu⟩
  |true=>
   go_upto_region 6 with fail;have hJ3:=HJ2.out.below ((iL _ _).alloc (iI _) (lG #[lg lH t.1.lab.kind,lg lH t.1.lab.size,lh ou t.1.sub.length cu,lg lH t.1.lab.tail] pV));have h7:=λr2 l2 x hx hL=>HJ2.out.to7 r2 l2 t.1.lab.kind t.1.lab.size ou t.1.sub.length cu t.1.lab.tail t.1.sub x HS.out hL hx rfl
   generalize w2.alloc _=w3 at*;generalize w2.heap.size=kb at*;have Nj:=iF hJ3;have H7:=iF h7;clear hJ3 HJ2 HS h7;have c2:=Nj.out.rb.cell 2;simp only[Ce,iP,iO,iM]at c2;unfold AU at c2;go_wp2_with fail;refine(HFD _ Nj.out.ly.rd).mono ?_;rintro e w4 ⟨rfl,rfl⟩;by_cases hf:r'.f=0
   .have t0:(r'.f !=0)=false:=by simp[hf]
    have HF:=iF hf;clear hf HFD;go_upto_region 7 with fail;have hx:=HTX.out t.1 r' l' Nj.out.ly.ok.1.2;have HL:iW (L.length<=100000):=iF (by rw[HLY.out.1];omega);have HVC:=iF (ZH.out t HM.out);have HY2:iW (Y=(L.map nJ.tree++((f t.1 r' l').1::(nE f (ts.drop (k+1)) (f t.1 r' l').2.1 (f t.1 r' l').2.2).1),(nE f (ts.drop (k+1)) (f t.1 r' l').2.1 (f t.1 r' l').2.2).2)):=iF (by
     rw[HLY.out.2,HST.out,if_pos];refine⟨?_,HF.out⟩;have h2:=HB.out;simp only[Bool.or_eq_true,decide_eq_true_eq]at h2;exact h2)
    have HLK:=iF HLY.out.1;clear HLY HST HB HTX ZH HOF;have ZI:iW (∀W ou cu,mH cb lb w W->yV cb lb fb r' l' W->_->_):=iF λW ou cu=>HVC.out W r' l' ou cu
    clear HVC;obtain⟨⟨x,r2,l2⟩,hy⟩:∃y,f t.1 r' l'=y:=⟨_,rfl⟩;simp only[hy]at ZI HY2 hx;clear hy
    refine ZG (g:=g) (cb:=cb) (lb:=lb) (fb:=fb) (kb:=kb) (wk:=kb) (r:=r') (r2:=r2) (l:=l') (l2:=l2) (k:=t.1.lab.kind) (z:=t.1.lab.size) (ou:=ou) (nu:=t.1.sub.length) (cu:=cu) (tl:=t.1.lab.tail) (ts:=t.1.sub) (xo:=xo) (xc:=xc) (L:=L) (x:=x) (w0:=w)
     (Ch:=by rfl) (ht3:=by rfl) (Gi:=by rfl) (hsz:=by rfl) (hval:=λW hl hu hs=>ZI.out W ou cu hu hl hs) (hI0:=λvs=>(H7.out r2 l2 x hx HL.out (vs 4) (vs 5) (vs 6)).drew _ _ _) ?_
    intro vs W hW;obtain⟨e,go,gc,he,hJ5⟩:=QZ.of7 hW;have HJ5:=iF hJ5;clear hW hJ5 Nj H7 ZI;generalize vs 4=v4;generalize vs 5=v5;generalize vs 6=v6;simp only[iN,iR,iT];have HXE:iW (e.tree=x):=iF he;clear he hx;go_wp2_with fail;go_roundw;case rel=>exact⟨k+1,r2,l2,go,gc,L++[e],by go_num,lK,iF ⟨HJ5.out,by rw[jv,HLK.out];rfl,by rw[HY2.out];simp[HXE.out]⟩⟩
    case measure=>simp[jA];omega
   .have t0:(r'.f !=0)=true:=by simp[hf]
    have MN:iW (Y=(L.map nJ.tree,r',l')):=iF (by
     rw[HLY.out.2,HST.out,if_neg λh=>hf h.2];simp)
    clear hf HFD;obtain⟨x0,x1,x2⟩:=Nj.out.xb.a3;obtain⟨y0,y1,y2,z0,z1,z2⟩:=Nj.out.rs.b3;go_wp2_with fail;rw[nO];obtain⟨hb,hl,hs,hu⟩:=Ni Nj.out;obtain⟨d0,d1,d2⟩:=hb.a3;refine iV (v:=lC #[ll ⟨#[]⟩,lu true,lh xo L.length xc]) (by simp[jr,Tryz.results249,go_sem,d0,d1,d2]) rfl ?_;rw[MN.out];exact⟨xo,xc,lU,hl,by rw[hg];simpa using hs,hu⟩
 .have MN:iW (Y=(L.map nJ.tree,r',l')):=iF (by
   rw[HJ.out.2.2,List.drop_eq_nil_of_le (by rw[HN.out];omega)];simp[nE])
  have Nj:=iF HJ.out.1;clear HJ;obtain⟨x0,x1,x2⟩:=Nj.out.xb.a3;obtain⟨y0,y1,y2,z0,z1,z2⟩:=Nj.out.rs.b3;go_wp2_with fail;rw[nO];obtain⟨hb,hl,hs,hu⟩:=Ni Nj.out;obtain⟨d0,d1,d2⟩:=hb.a3;refine iV (v:=lC #[ll ⟨#[]⟩,lu true,lh xo L.length xc]) (by simp[jr,Tryz.results249,go_sem,d0,d1,d2]) rfl ?_;rw[MN.out];exact⟨xo,xc,lU,hl,by rw[hg];simpa using hs,hu⟩):p:=h
theorem Q0(cb lb fb tb rb:Nat)(r:RS)(l:Nat)(ts:List (lL TL×Bool))(f:lL TL->RS->Nat->WV)(w:iH)(hI:yV cb lb fb r l w)(hn:ts.length<=65536)(Q:cb<w.heap.size/\lb<w.heap.size/\fb<w.heap.size)(E:∀W r' l',mH cb lb w W->yV cb lb fb r' l' W->∀(i:Nat) (t:lL TL×Bool),ts[i]? =some t->iU iG 250 #[lg lH (i:Nat),lq (some ⟨tb,0,none⟩)] W (Br (QY cb lb) t.1 (t.2||decide (r'.p<r'.t.size)) W))(hval:∀t,t∈ts->∀W r' l' ou cu,mH cb lb w W->yV cb lb fb r' l' W->l9.lY W (QY cb lb) (lh ou t.1.sub.length cu) t.1.sub->iU iG 211 #[lC #[yT cb,Ah cb,AU cb,zC cb,yU fb,lq (some ⟨lb,0,none⟩)],lC #[lg lH t.1.lab.kind,lg lH t.1.lab.size,lh ou t.1.sub.length cu,lg lH t.1.lab.tail]] W (KO cb lb fb (f t.1 r' l') W))(J:∀t r l,r.t.size<=100000->(f t r l).1.lab.text.length<=jb):
  iU iG 249 #[lC #[yT cb,Ah cb,AU cb,zC cb,yU fb,lq (some ⟨lb,0,none⟩)],lg lH (ts.length:Nat),.func (.func 250) #[] #[lq (some ⟨tb,0,none⟩)]] w (Yt cb lb fb (nE f ts r l) w):=by
 obtain⟨g,hg⟩:=lV w.heap.size;have A:iW (∀W,((w.alloc (lG #[yT cb,Ah cb,AU cb,zC cb,yU fb,lq (some ⟨lb,0,none⟩)] Cw)).alloc (lG #[ll ⟨#[]⟩,lu false,lh none 0 0] IT)).alloc (lG #[ll ⟨#[]⟩,lu true,lh none 0 0] IT)=W->QZ g cb lb fb r l w none 0 [] W):=iF λW hW=>by
  exact Ul
 have HOF:=iF E;have ZH:=iF hval;have HTX:=iF J;obtain⟨n,C⟩:=lV ts.length;have HN:=iF C;rw[C]at hn⊢;obtain⟨Y,O⟩:=lV (nE f ts r l);have V:=iF O;rw[O];clear hI E hval J C Q O;unfold yT Ah AU zC yU at A;unfold yT Ah AU zC yU;go_in;go_upto_region 2 with fail;have N:=A.out _ rfl;generalize ((w.alloc _).alloc _).alloc _=w1 at*;have U:=iF N;clear A N;go_wp2_with fail;go_loopw [13] (λkv Z=>∃(k:Nat) (r':RS) (l':Nat) (xo:Option kr) (xc:Nat) (L:List (nJ IL)),kv=lg lH k/\k<=n/\iW (QZ g cb lb fb r' l' w xo xc L Z/\L.length=k/\Y=(L.map nJ.tree++(nE f (ts.drop k) r' l').1,(nE f (ts.drop k) r' l').2))) (λkv _=>n -(jA kv).toNat);case atStart=>exact⟨0,r,l,none,0,[],rfl,lK,iF ⟨U.out,rfl,by rw[<-V.out];simp⟩⟩
 case round=>
  exact Yu
theorem Q3(cb lb fb tb rb:Nat)(r:RS)(l:Nat)(ts:List (lL TL×Bool))(f:lL TL->RS->Nat->WV)(w:iH)(hI:yV cb lb fb r l w)(hn:ts.length<=65536)(Q:cb<w.heap.size/\lb<w.heap.size/\fb<w.heap.size)(E:∀W r' l',mH cb lb w W->yV cb lb fb r' l' W->∀(i:Nat) (t:lL TL×Bool),ts[i]? =some t->iU iG 251 #[lg lH (i:Nat),lq (some ⟨tb,0,none⟩),lq (some ⟨rb,0,none⟩)] W (Br (QY cb lb) t.1 (t.2||decide (r'.p<r'.t.size)) W))(hval:∀t,t∈ts->∀W r' l' ou cu,mH cb lb w W->yV cb lb fb r' l' W->l9.lY W (QY cb lb) (lh ou t.1.sub.length cu) t.1.sub->iU iG 211 #[lC #[yT cb,Ah cb,AU cb,zC cb,yU fb,lq (some ⟨lb,0,none⟩)],lC #[lg lH t.1.lab.kind,lg lH t.1.lab.size,lh ou t.1.sub.length cu,lg lH t.1.lab.tail]] W (KO cb lb fb (f t.1 r' l') W))(J:∀t r l,r.t.size<=100000->(f t r l).1.lab.text.length<=jb):
  iU iG 249 #[lC #[yT cb,Ah cb,AU cb,zC cb,yU fb,lq (some ⟨lb,0,none⟩)],lg lH (ts.length:Nat),.func (.func 251) #[] #[lq (some ⟨tb,0,none⟩),lq (some ⟨rb,0,none⟩)]] w (Yt cb lb fb (nE f ts r l) w):=by
 obtain⟨g,hg⟩:=lV w.heap.size;have A:iW (∀W,((w.alloc (lG #[yT cb,Ah cb,AU cb,zC cb,yU fb,lq (some ⟨lb,0,none⟩)] Cw)).alloc (lG #[ll ⟨#[]⟩,lu false,lh none 0 0] IT)).alloc (lG #[ll ⟨#[]⟩,lu true,lh none 0 0] IT)=W->QZ g cb lb fb r l w none 0 [] W):=iF λW hW=>by
  exact Ul
 have HOF:=iF E;have ZH:=iF hval;have HTX:=iF J;obtain⟨n,C⟩:=lV ts.length;have HN:=iF C;rw[C]at hn⊢;obtain⟨Y,O⟩:=lV (nE f ts r l);have V:=iF O;rw[O];clear hI E hval J C Q O;unfold yT Ah AU zC yU at A;unfold yT Ah AU zC yU;go_in;go_upto_region 2 with fail;have N:=A.out _ rfl;generalize ((w.alloc _).alloc _).alloc _=w1 at*;have U:=iF N;clear A N;go_wp2_with fail;go_loopw [13] (λkv Z=>∃(k:Nat) (r':RS) (l':Nat) (xo:Option kr) (xc:Nat) (L:List (nJ IL)),kv=lg lH k/\k<=n/\iW (QZ g cb lb fb r' l' w xo xc L Z/\L.length=k/\Y=(L.map nJ.tree++(nE f (ts.drop k) r' l').1,(nE f (ts.drop k) r' l').2))) (λkv _=>n -(jA kv).toNat);case atStart=>exact⟨0,r,l,none,0,[],rfl,lK,iF ⟨U.out,rfl,by rw[<-V.out];simp⟩⟩
 case round=>
  exact Yu
structure Ci(g cb lb fb:Nat)(r:RS)(l:Nat)(k z:Int)(ou:Option kr)(nu cu:Nat)(tl:Int)(s:List (lL TL))(w0:iH)(rc:Array iJ)(W:iH):Prop where
 ly:yV cb lb fb r l W
 rb:lN W g (Ce cb lb fb) Cw
 tb:lN W (g+1) #[lg lH k,lg lH z,lh ou nu cu,lg lH tl] pV
 rs:lN W (g+2) rc IT
 sub:l9.lY W (λc=>QY cb lb c/\c<g) (lh ou nu cu) s
 up:mH cb lb w0 W
 lt:cb<g/\lb<g/\fb<g/\w0.heap.size=g/\0<g
def yM:Array iJ:=#[ll ⟨#[]⟩,lu false,lh none 0 0]
section
variable {g cb lb fb:Nat}{r r':RS}{l l':Nat}{k z:Int}{ou:Option kr}{nu cu:Nat}{tl:Int}{s:List (lL TL)}{w0 W W':iH}{rc:Array iJ}
theorem Ci.Nk(h:Ci g cb lb fb r l k z ou nu cu tl s w0 rc W)(hl:yV cb lb fb r' l' W')(A:mH cb lb W W'):Ci g cb lb fb r' l' k z ou nu cu tl s w0 rc W':=by
 have E:=h.lt;exact⟨hl,A.blk h.rb lK lK,A.blk h.tb lK lK,A.blk h.rs lK lK,Shape.lY.keep h.sub A.size (λ_ _ h=>h) λc hc C=>A.block c hc C.1.1 C.1.2,h.up.trans A,h.lt⟩
theorem Ci.below(h:Ci g cb lb fb r l k z ou nu cu tl s w0 rc W)(hb:iK W.heap.size W W'):Ci g cb lb fb r l k z ou nu cu tl s w0 rc W':=h.Nk (h.ly.below hb) (mH.of hb)
theorem Ci.turn(h:Ci g cb lb fb r l k z ou nu cu tl s w0 rc W)(A:ng cb W W')(C:tT W' cb r')(hk:MZ r r'):Ci g cb lb fb r' l k z ou nu cu tl s w0 rc W':=
 h.Nk (h.ly.turn A C ⟨hk.ok h.ly.ok.1.1,by rw[hk.t];exact h.ly.ok.1.2⟩) (uW A)
theorem Ci.y7(h:Ci g cb lb fb r l k z ou nu cu tl s w0 rc W)(m:Nat)(A:m<=1024):Ci g cb lb fb r m k z ou nu cu tl s w0 rc (W.setCell ⟨lb,0,none⟩ (lg lH (m:Nat))):=h.Nk (h.ly.y7 m A) ((mH.refl cb lb W).Lu 0 _)
theorem Ci.put(h:Ci g cb lb fb r l k z ou nu cu tl s w0 yM W)(a b c:iJ):Ci g cb lb fb r l k z ou nu cu tl s w0 #[a,b,c] (nA W (g+2) a b c):=by
 have J:=h.lt;have C:∀d,d≠g+2->(nA W (g+2) a b c).heap[d]? =W.heap[d]? :=λd hd=>by simp[nA,jf,jK,Ne.symm hd]
 have hs:(nA W (g+2) a b c).heap.size=W.heap.size:=by simp[nA,jf]
 have o:∀{d:Nat}{cs:Array iJ}{t:jg},lN W d cs t->d≠g+2->lN (nA W (g+2) a b c) d cs t:=λh hn=>by unfold lN at*;rw[C _ hn];exact h
 have A:=h.ly;have key:∀i,(nA W (g+2) a b c).cell? ⟨0,i,none⟩=W.cell? ⟨0,i,none⟩:=λi=>by
  simp only[kZ,C 0 lK]
 refine⟨⟨o A.rd lK,A.ok,o A.lf lK,o A.fr lK,⟨(key 0).trans A.tab.a,(key 1).trans A.tab.b,(key 2).trans A.tab.c⟩,A.ne⟩,o h.rb lK,o h.tb lK,((h.rs.set 0 a).set 1 b).set 2 c,?_,?_,h.lt⟩;.exact Shape.lY.keep h.sub (kX hs.symm) (λ_ _ h=>h) λc _ E=>C c (by have:=E.2;omega)
 .exact⟨h.up.os,h.up.tape,h.up.output,by rw[hs];exact h.up.size,λd hd hb E=>(C d lK).trans (h.up.block d hd hb E)⟩
theorem Ci.drew(h:Ci g cb lb fb r l k z ou nu cu tl s w0 rc W):Ci g cb lb fb r l k z ou nu cu tl s w0 rc W.drew:=h.below (mf W)
end
theorem Xr(s:ByteArray)(w:iH):iU iG 93 #[ll s] w λe w'=>∃er:Int,e=lF (lD #[lg lI (z8 s),lg lH er])/\w=w':=by
 unfold z8;by_cases h0:s.size=0
 .rw[if_neg lK]
  exact(uo s w h0).mono λe w' h=>⟨1,h⟩
 .by_cases A:s.size<=8
  .rw[if_pos lK]
   exact(qC s w lK A).mono λe w' h=>⟨0,h⟩
  .rw[if_neg lK]
   exact(zb s w lK).mono λe w' h=>⟨5,h⟩
theorem ZJ(b:ByteArray):(⟨b.data.toList.toArray⟩:ByteArray)=b:=by cases b;simp
def Da:List kH:=[⟨some 48,.fieldAddr 258 (.tmp 2) 0,0,"layout.go:116",#[],none⟩,⟨some 49,.load 195 (.tmp 48),195,"layout.go:116",#[⟨0,.data⟩],none⟩,⟨some 50,.fieldAddr 258 (.tmp 2) 4,0,"layout.go:116",#[],none⟩,⟨some 51,.load 139 (.tmp 50),139,"layout.go:116",#[⟨2,.data⟩],none⟩,⟨some 52,.fieldAddr 63 (.tmp 3) 1,0,"layout.go:116",#[],none⟩,⟨some 53,.load 3 (.tmp 52),3,"layout.go:116",#[⟨4,.data⟩],none⟩,⟨some 54,.call {callee:=.value (.tmp 51),args:=#[.tmp 53],argTypes:=#[3]},3,"layout.go:116",#[⟨3,.data⟩,⟨5,.data⟩],none⟩,⟨some 55,.call {callee:=.value (.tmp 49),args:=#[.tmp 54],argTypes:=#[3]},9,"layout.go:116",#[⟨1,.data⟩,⟨6,.data⟩,⟨6,.chain⟩],none⟩,⟨some 56,.call {callee:=.value (.func 227),args:=#[.tmp 55],argTypes:=#[9]},47,"layout.go:116",#[⟨7,.data⟩,⟨7,.chain⟩],none⟩,⟨none,.store 47 (.tmp 4) (.tmp 56),0,"layout.go:116",#[⟨8,.data⟩,⟨8,.chain⟩,⟨0,.phase⟩,⟨1,.phase⟩,⟨2,.phase⟩,⟨3,.phase⟩,⟨4,.phase⟩,⟨5,.phase⟩,⟨6,.phase⟩,⟨7,.phase⟩,⟨8,.phase⟩],none⟩]
section
variable (g cb lb fb:Nat)(r r1 r2:RS)(l:Nat)(k:Int)(m n1:Nat)(T:ByteArray)(ou:Option kr)(nu cu:Nat)(tl:Int)(s:List (lL TL))(w0:iH)
def qO:Nat->iJ
 |0=> lq (some ⟨g,0,none⟩)
 |1=>yT cb
 |2=> lq (some ⟨g,4,none⟩)
 |3=>yU fb
 |4=> lq (some ⟨g+1,1,none⟩)
 |5=> lg lH m
 |6=> lg lH n1
 |7=> ll T
 |8=> lC #[ll T,lu false,lh none 0 0]
 |_=>jo
structure Um(D:Nat->Bool)(vs:Nat->iJ)(w:iH):Prop where
 mh:Ci g cb lb fb (if(D 7)=true then r2 else if(D 6)=true then r1 else r) l k m ou nu cu tl s w0 (if(D 9)=true then#[ll T,lu false,lh none 0 0]else yM) w
 val:∀j,(true)=true->D j=true->vs j=qO g cb fb m n1 T j
variable {g cb lb fb r r1 r2 l k m n1 T ou nu cu tl s w0}
theorem Un{D:Nat->Bool}{vs:Nat->iJ}{w w':iH}(h:Um g cb lb fb r r1 r2 l k m n1 T ou nu cu tl s w0 D vs w){i:Nat}(hi:i≠6/\i≠7/\i≠9)(A:Ci g cb lb fb (if(D 7)=true then r2 else if(D 6)=true then r1 else r) l k m ou nu cu tl s w0 (if(D 9)=true then#[ll T,lu false,lh none 0 0]else yM) w->Ci g cb lb fb (if(D 7)=true then r2 else if(D 6)=true then r1 else r) l k m ou nu cu tl s w0 (if(D 9)=true then#[ll T,lu false,lh none 0 0]else yM) w'):Um g cb lb fb r r1 r2 l k m n1 T ou nu cu tl s w0 (wV D i) (wW vs i (qO g cb fb m n1 T i)) w':=by
 refine⟨?_,ry h.val⟩;rw[lT D (show 6≠i by omega)];rw[lT D (show 7≠i by omega)];rw[lT D (show 9≠i by omega)];exact A h.mh
theorem Xt{id:Nat}{Q:Exit->Act->iH->Prop}{a0:Act}{aa:iH}(ht2:a0.tmps.getD 2 jo=lq (some ⟨g,0,none⟩))(ht3:a0.tmps.getD 3 jo=lq (some ⟨g+1,0,none⟩))(Bw:∀W,yV cb lb fb r l W->iU iG 209 #[lg lH m,lq (some ⟨fb,0,none⟩)] W λe w'=>e=lF (lg lH n1)/\yV cb lb fb r1 l w'/\ng cb W w')(htake:∀W,tT W cb r1->iU iG 145 #[lq (some ⟨cb,0,none⟩),lg lH n1] W (wZ cb W r2 (ll T)))(hk2:MZ r1 r2)(Cu:a0.tmps.getD 4 jo=lq (some ⟨g+2,0,none⟩))(hsz:a0.tmps.size=74)(hI0:∀vs:Nat->iJ,(λw=>Ci g cb lb fb (if false=true then r2 else if false=true then r1 else r) l k m ou nu cu tl s w0 (if false=true then#[ll T,lu false,lh none 0 0]else yM) w) aa.drew)(ae:∀(vs:Nat->iJ) (w:iH),Ci g cb lb fb (if true=true then r2 else if true=true then r1 else r) l k m ou nu cu tl s w0 (if true=true then#[ll T,lu false,lh none 0 0]else yM) w->Q .normal {a0 with tmps:=(((((((((a0.tmps.setIfInBounds 48 (lq (some ⟨g,0,none⟩))).setIfInBounds 49 (yT cb)).setIfInBounds 50 (lq (some ⟨g,4,none⟩))).setIfInBounds 51 (yU fb)).setIfInBounds 52 (lq (some ⟨g+1,1,none⟩))).setIfInBounds 53 (lg lH m)).setIfInBounds 54 (lg lH n1)).setIfInBounds 55 (ll T)).setIfInBounds 56 (lC #[ll T,lu false,lh none 0 0]))} w):
  (jJ id Da.toArray true).wp iG Q a0 aa:=by
 refine l6 10 74 (Um g cb lb fb r r1 r2 l k m n1 T ou nu cu tl s w0) lQ hsz lQ (.inl rfl) lQ ?_ ?_ ?_;.exact oo
 .refine pO λA ax=> ?_
  clear hI0 ae hsz;replace ht2:=iF ht2;replace ht3:=iF ht3;replace Bw:=iF Bw;replace htake:=iF htake;replace hk2:=iF hk2;replace Cu:=iF Cu;unfold Da;simp only[ji,jC,o6];refine⟨?_,?_,?_,?_,?_,?_,?_,?_,?_,?_,trivial⟩<;>(intro D vs a w K hI hd E hw2 C N;subst ax;unfold Da);have e2:=(C 2 lM).trans ht2.out;rotate_left;have af:=fe C hI.val E 48 0;simp only[qO]at af;have hB:=hI.mh.rb;have c0:=hB.cell 0;simp only[Ce,iP,iO,iM]at c0;clear hB;rotate_left;have e2:=(C 2 lM).trans ht2.out;rotate_left;have ag:=fe C hI.val E 50 2;simp only[qO]at ag;have hB:=hI.mh.rb;have c0:=hB.cell 4;simp only[Ce,iP,iO,iM]at c0;clear hB;rotate_left;have e3:=(C 3 lM).trans ht3.out;rotate_left;have ah:=fe C hI.val E 52 4;simp only[qO]at ah;have hB:=hI.mh.tb;have c0:=hB.c1;clear hB;rotate_left
  .have Bw:=Bw.out
   have U:=fe C hI.val E 51 3;have ai:=fe C hI.val E 53 5;simp only[qO]at U ai;have J:=hI.mh;rw[hd,hw2 7 lM lQ,hw2 9 lM lQ]at J;have ay:=Bw w J.ly;clear Bw;unfold yU at U;rw[if_pos (by rfl)];go_simp;refine ay.mono ?_;rintro e aj ⟨rfl,hl,Y⟩;refine N (qO g cb fb m n1 T 6) _ _ rfl ⟨?_,ry hI.val⟩;rw[l7,lT D (show 7≠6 by decide),lT D (show 9≠6 by decide),hw2 7 lM lQ,hw2 9 lM lQ];exact J.Nk hl (uW Y)
  .have htake:=htake.out
   have hk2:=hk2.out;have V:=fe C hI.val E 49 1;have ak:=fe C hI.val E 54 6;simp only[qO]at V ak;have J:=hI.mh;rw[hd,E 6 lM lQ,hw2 9 lM lQ]at J;have Z:=htake w J.ly.rd;clear htake;unfold yT at V;rw[if_pos (by rfl)];go_simp;refine Z.mono ?_;rintro e aj ⟨rfl,Y,az⟩;refine N (qO g cb fb m n1 T 7) _ _ rfl ⟨?_,ry hI.val⟩;rw[l7,lT D (show 6≠7 by decide),lT D (show 9≠7 by decide),hw2 9 lM lQ];exact J.turn Y az hk2
  .have au:=fe C hI.val E 55 7
   simp only[qO]at au;have Z:=Bq T w;rw[if_pos (by rfl)];go_simp;refine Z.mono ?_;rintro e aj ⟨rfl,hb⟩;exact N (qO g cb fb m n1 T 8) _ _ rfl (Un hI (i:=8) lM λh=>h.below hb)
  .have e4:=(C 4 lM).trans Cu.out
   have av:=fe C hI.val E 56 8;simp only[qO]at av;have J:=hI.mh;rw[hd,E 7 lM lQ]at J;have hB:=J.rs;have z0:=hB.cell 0;have aA:=hB.cell 1;have aB:=hB.cell 2;obtain⟨aC,f1,f2⟩:=hB.f3;simp only[yM,j4,if_false,iP,iO,iM]at z0 aA aB;clear hB;go_simp;rw[nO];refine N jo _ _ rfl ⟨?_,ry hI.val⟩;rw[l7,lT D (show 6≠9 by decide),lT D (show 7≠9 by decide),E 7 lM lQ];exact Ci.put J _ _ _
  all_goals
   go_simp;exact N _ _ _ rfl ⟨hI.mh,ry hI.val⟩
 .intro D vs w O hI
  have E:=hI.mh;rw[O 6 lM]at E;rw[O 7 lM]at E;rw[O 9 lM]at E;have q:=ae vs w E;rw[mQ hI.val O];unfold Da;exact om
end
theorem tC(w:iH)(Q:Nat->Prop):lX w Q (lh none 0 0) []:=⟨none,0,rfl,iI _,jy _,λh=>absurd h lU⟩
theorem O3(r:RS)(n:Int):(r.take n).2.size<=r.t.size:=by
 unfold RS.take;split
 .split
  .exact jy _
  .split
   .exact jy _
   .simp only[ja];omega
 .exact jy _
theorem Ev:∀(d:Nat)(t:lL TL)(r:RS)(l:Nat),r.t.size<=100000->(nC d t r l).1.lab.text.length<=jb
 |0,t,r,l,h=>by show([]:List UInt8).length<=jb;decide
 |d+1,.node a s,r,l,h=>by
  have A:(100000:Nat)<=jb:=lM;have ht:∀b:ByteArray,b.size<=100000->(sZ b).lab.text.length<=jb:=λb hb=>by
   show b.data.toList.length<=jb;have:b.data.toList.length=b.size:=lU;omega
  have h0:(sZ ⟨#[]⟩).lab.text.length<=jb:=lM;unfold nC;split;.exact h0
  .split
   .show(zH _).reverse.length<=jb
    have:=AY 8 _ (jq (Hu (r.take a.size).2) lM);rw[List.length_reverse];omega
   .split
    .exact ht _ (je (O3 _ _) h)
    .split
     .exact ht _ (je (O3 _ _) (by rw[MW];exact h))
     .split
      .cases s with
       |nil=>exact h0
       |cons t ts=>show([]:List UInt8).length<=jb;decide
      .show([]:List UInt8).length<=jb;decide
theorem Xu(d:Nat)(a:TL)(s:List (lL TL))(r:RS):nC (d+1) (.node a s) r 0=(sZ ⟨#[]⟩,r.fail 4,0):=by unfold nC;rw[if_pos rfl]
theorem Xv(d m:Nat)(a:TL)(s:List (lL TL))(r:RS)(h:a.kind=1):nC (d+1) (.node a s) r (m+1)=(Aa (z8 (r.take a.size).2),(r.take a.size).1,m):=by unfold nC;rw[if_neg lK,if_pos h];rfl
theorem Xw(d m:Nat)(a:TL)(s:List (lL TL))(r:RS)(h:a.kind=2):nC (d+1) (.node a s) r (m+1)=(sZ (r.take a.size).2,(r.take a.size).1,m):=by unfold nC;rw[if_neg lK,if_neg lK,if_pos h];rfl
theorem Xx(d m:Nat)(a:TL)(s:List (lL TL))(r:RS)(h:a.kind=3):nC (d+1) (.node a s) r (m+1)=(sZ ((r.comp a.size.toNat).1.take (r.comp a.size.toNat).2).2,((r.comp a.size.toNat).1.take (r.comp a.size.toNat).2).1,m):=by
 unfold nC;rw[if_neg lK,if_neg lK,if_neg lK,if_pos h];rfl
theorem Xy(d m:Nat)(a:TL)(t:lL TL)(r:RS)(h:a.kind=4):nC (d+1) (.node a [t]) r (m+1)=(qy (nE (nC d) (jY (r.comp a.size.toNat).2 (t,true)) (r.comp a.size.toNat).1 m).1,(nE (nC d) (jY (r.comp a.size.toNat).2 (t,true)) (r.comp a.size.toNat).1 m).2):=by
 unfold nC;rw[if_neg lK,if_neg lK,if_neg lK,if_neg lK,if_pos h];rfl
theorem Xz(d m:Nat)(a:TL)(s:List (lL TL))(r:RS)(h:a.kind=5):nC (d+1) (.node a s) r (m+1)=(qy (nE (nC d) (rZ s a.tail) r m).1,(nE (nC d) (rZ s a.tail) r m).2):=by
 unfold nC;rw[if_neg lK,if_neg lK,if_neg lK,if_neg lK,if_neg lK];rfl
theorem xS{g cb lb fb:Nat}{r:RS}{l:Nat}{k z:Int}{ou:Option kr}{nu cu:Nat}{tl:Int}{s:List (lL TL)}{w0 W:iH}{a b c:iJ}(h:Ci g cb lb fb r l k z ou nu cu tl s w0 #[a,b,c] W):
  (W.cell? ⟨g+2,0,none⟩=some a/\W.cell? ⟨g+2,1,none⟩=some b/\W.cell? ⟨g+2,2,none⟩=some c)/\W.frozen? ⟨g+2,0,none⟩=false/\W.frozen? ⟨g+2,1,none⟩=false/\W.frozen? ⟨g+2,2,none⟩=false:=
 ⟨⟨h.rs.cell 0,h.rs.cell 1,h.rs.cell 2⟩,h.rs.free 0,h.rs.free 1,h.rs.free 2⟩
theorem XA(r:RS)(m:Nat)(A:m<=65536):(r.comp m).2<=65536:=by
 by_cases hf:(r.comp m).1.f=0;.have:=yj hf;omega
 .exact TM
theorem Uo(h:p:=by
 have a3i:=iF hs;clear hl hu hs CL;dsimp only at*;obtain⟨⟨y0,y1,y2⟩,f0,f1,f2⟩:=xS O4.out;go_wp2_with fail;rw[nO];have hF:=O4.out.put (ll ⟨#[]⟩) (lu true) (lh ov ys.length cv);obtain⟨⟨d0,d1,d2⟩,_⟩:=xS hF;refine iV (v:=lC #[ll ⟨#[]⟩,lu true,lh ov ys.length cv]) (by simp[jr,Tryz.results211,go_sem,d0,d1,d2]) rfl ?_;rw[XB.out];refine⟨ov,cv,rfl,hF.ly,?_,hF.up⟩;refine Shape.lY.keep a3i.out (by simp[nA,jf]) (λc _ hc=>by have:=HS.out c hc;show w.heap.size<=c;omega) λc _ hc=> ?_
 have:=HS.out c hc;simp[nA,jf,jK,show g+2≠c by omega,show¬g+2=c by omega]):p:=h
theorem Uq(h:p:=by
 obtain⟨⟨d0,d1,d2⟩,_⟩:=xS hF;refine iV (v:=lC #[ll T,lu false,lh none 0 0]) (by simp[jr,Tryz.results211,go_sem,d0,d1,d2]) rfl ?_;rw[XB.out];exact⟨none,0,by show _=jP (lC #[ll (⟨T.data.toList.toArray⟩:ByteArray),lu false,lh none 0 0]);rw[ZJ],hF.ly,tC _ _,hF.up⟩):p:=h
theorem Q4:∀(d:Nat)(t:lL TL)(cb lb fb:Nat)(r:RS)(l:Nat)(w:iH)(ou:Option kr)(cu:Nat),t.deep<=d->t.all mi=true->yV cb lb fb r l w->(cb<w.heap.size/\lb<w.heap.size/\fb<w.heap.size)->l9.lY w (QY cb lb) (lh ou t.sub.length cu) t.sub->
  iU iG 211 #[lC #[yT cb,Ah cb,AU cb,zC cb,yU fb,lq (some ⟨lb,0,none⟩)],lC #[lg lH t.lab.kind,lg lH t.lab.size,lh ou t.sub.length cu,lg lH t.lab.tail]] w (KO cb lb fb (nC d t r l) w):=by
 intro d;induction d with
 |zero=>intro t cb lb fb r l w ou cu hd;exact absurd (lL.DL t) lK
 |succ d aT=>
  intro t cb lb fb r l w ou cu hd J hI aD ai;obtain⟨⟨k,z,tl⟩,s⟩:=t;simp only[lL.nk,lL.oD]at*;have aF:lL.mG s<=d:=by simp only[lL.deep]at hd;omega
  simp only[lL.all,iY]at J;obtain⟨aG,aH⟩:=J;unfold mi nX at aG;simp only[decide_eq_true_eq]at aG;obtain⟨g,hg⟩:=lV w.heap.size;have bI:∀(fn:Fn)(first cap:Array iJ)(w:iH),(kL fn first cap).run iG w=.ok (.func fn first cap) w:=λ_ _ _ _=>rfl
  obtain⟨n,hn⟩:=lV s.length;have aj:iW (∀W,((w.alloc (lG #[yT cb,Ah cb,AU cb,zC cb,yU fb,lq (some ⟨lb,0,none⟩)] Cw)).alloc (lG #[lg lH k,lg lH z,lh ou n cu,lg lH tl] pV)).alloc (lG #[ll ⟨#[]⟩,lu false,lh none 0 0] IT)=W->Ci g cb lb fb r l k z ou n cu tl s w yM W):=iF λW bA=>by
   subst bA;have Z:=(iL w.heap.size w).alloc (iI _) (lG (Ce cb lb fb) Cw);have a2:=Z.alloc lU (lG #[lg lH k,lg lH z,lh ou n cu,lg lH tl] pV);have a3:=a2.alloc lW (lG #[ll ⟨#[]⟩,lu false,lh none 0 0] IT);have aU:=lN.new w (Ce cb lb fb) Cw;have aV:=lN.new (w.alloc (lG (Ce cb lb fb) Cw)) #[lg lH k,lg lH z,lh ou n cu,lg lH tl] pV;have aW:=lN.new ((w.alloc (lG (Ce cb lb fb) Cw)).alloc (lG #[lg lH k,lg lH z,lh ou n cu,lg lH tl] pV)) #[ll ⟨#[]⟩,lu false,lh none 0 0] IT;rw[show(w.alloc (lG (Ce cb lb fb) Cw)).heap.size=g+1 by simp[hg]]at aV;rw[show((w.alloc (lG (Ce cb lb fb) Cw)).alloc (lG #[lg lH k,lg lH z,lh ou n cu,lg lH tl] pV)).heap.size=g+2 by simp[hg]]at aW;rw[hg]at aU;rw[hn]at ai;exact⟨hI.below a3,(aU.alloc _).alloc _,aV.alloc _,aW,Shape.lY.keep ai a3.size (λc hc aa=>⟨aa,hg▸hc⟩) λc hc _=>a3.block c hc,mH.of a3,⟨lK,lK,lK,hg,hg▸hI.tab.lt⟩⟩
  obtain⟨aI,aR⟩:∃aI,nC (d+1) (.node ⟨k,z,tl⟩ s) r l=aI:=⟨_,rfl⟩;have N:=iF aR;rw[aR,hn];have ae:=iF aT;have aJ:=iF aH;have aK:=iF aF;have aX:=iF hn;have bJ:=iF aD;have aL:=iF (λW J=>qX cb r 4 W J);have bK:=hI.ok.2;clear hI ai aR aT hd aH aF aD;unfold yT Ah AU zC yU at aj;unfold yT Ah AU zC yU;obtain⟨ag,V⟩:∃ag:Int,(l:Int)=ag:=⟨_,rfl⟩;go_in;go_upto_region 1 with fail;have U:=aj.out _ rfl;generalize ((w.alloc _).alloc _).alloc _=w1 at*;have Y:=iF U;have c5:w1.cell? ⟨g,5,none⟩=some (lq (some ⟨lb,0,none⟩)):=U.rb.cell 5;have c1:w1.cell? ⟨g,1,none⟩=some (Ah cb):=U.rb.cell 1;have cl:w1.cell? ⟨lb,0,none⟩=some (lg lH ag):=V▸U.ly.lf.cell 0;have bB:=U.ly.lf.free 0;unfold Ah at c1;clear aj U;cases l with
  |zero=>
   have t0:decide (ag<=0)=true:=by rw[<-V];rfl
   have XB:iW (aI=(sZ ⟨#[]⟩,r.fail 4,0)):=iF (by rw[<-N.out];exact Xu _ _ _ _);clear V N;go_wp2_with fail;refine(aL.out _ Y.out.ly.rd).mono ?_;rintro e w2 ⟨rfl,hu,J⟩;have A:=iF (Y.out.turn hu J (Ab r 4));clear hu J Y;obtain⟨⟨y0,y1,y2⟩,f0,f1,f2⟩:=xS A.out;go_wp2_with fail;rw[nO];have hF:=A.out.put (ll ⟨#[]⟩) (lu false) (lh none 0 0);obtain⟨⟨d0,d1,d2⟩,_⟩:=xS hF;refine iV (v:=lC #[ll ⟨#[]⟩,lu false,lh none 0 0]) (by simp[jr,Tryz.results211,go_sem,d0,d1,d2]) rfl ?_;rw[XB.out];exact⟨none,0,rfl,hF.ly,tC _ _,hF.up⟩
  |succ m=>
   have t0:decide (ag<=0)=false:=by rw[<-V];simp
   have aY:IntKind.i64.wrap (ag - 1)=(m:Int):=by rw[IntWalk.i64_in _ lK];omega
   clear V;go_upto_region 5 with fail;have aM:=Y.out.y7 m lK;generalize w1.setCell _ _=w2 at*;have A:=iF aM;clear aM Y t0 aY c5 c1 cl bB aL;have b0:w2.cell? ⟨g,0,none⟩=some (yT cb):=A.out.rb.cell 0;have b4:w2.cell? ⟨g,4,none⟩=some (yU fb):=A.out.rb.cell 4;have a0:w2.cell? ⟨g+1,0,none⟩=some (lg lH k):=A.out.tb.cell 0;have Z:w2.cell? ⟨g+1,1,none⟩=some (lg lH z):=A.out.tb.cell 1;unfold yT at b0;unfold yU at b4;have hk:k=1\/k=2\/k=3\/k=4\/k=5:=lK;rcases hk with rfl|rfl|rfl|rfl|rfl
   .have XB:iW (aI=(Aa (z8 (r.take z).2),(r.take z).1,m)):=iF (by rw[<-N.out];exact Xv _ _ _ _ _ rfl)
    have ak:=iF (λW J=>nU cb r z W A.out.ly.ok.1.1 J);have au:=iF (uJ r z);have aZ:=iF (Hu (r.take z).2);clear N;go_wp2_with fail;refine(ak.out _ A.out.ly.rd).mono ?_;rintro e w3 ⟨rfl,hu,J⟩;have C:=iF (A.out.turn hu J au.out);clear hu J A ak au b0 b4 a0 Z;generalize r.take z=y at*;obtain⟨r2,T⟩:=y;dsimp only at*;have bg:=iF (Xr T);go_wp2_with fail;refine(bg.out _).mono ?_;rintro e w4 ⟨er,rfl,rfl⟩;have av:=iF (λW=>Hy (z8 T) W ⟨(zH (z8 T)).reverse.toArray⟩ λbC=>QF (z8 T) bC aZ.out);clear bg;generalize z8 T=bD at*;go_wp2_with fail;refine(av.out _).mono ?_;rintro e w5 ⟨rfl,hb⟩;have O4:=iF (C.out.below hb);clear hb C av;obtain⟨aC,ax⟩:∃aC,(⟨(zH bD).reverse.toArray⟩:ByteArray)=aC:=⟨_,rfl⟩;rw[ax];have aN:=iF ax;clear ax;obtain⟨⟨y0,y1,y2⟩,f0,f1,f2⟩:=xS O4.out;go_wp2_with fail;rw[nO];have hF:=O4.out.put (ll aC) (lu false) (lh none 0 0);obtain⟨⟨d0,d1,d2⟩,_⟩:=xS hF;refine iV (v:=lC #[ll aC,lu false,lh none 0 0]) (by simp[jr,Tryz.results211,go_sem,d0,d1,d2]) rfl ?_;rw[XB.out];rw[<-aN.out];rw[<-aN.out]at hF;exact⟨none,0,rfl,hF.ly,tC _ _,hF.up⟩
   .have XB:iW (aI=(sZ (r.take z).2,(r.take z).1,m)):=iF (by rw[<-N.out];exact Xw _ _ _ _ _ rfl)
    have ak:=iF (λW J=>nU cb r z W A.out.ly.ok.1.1 J);have au:=iF (uJ r z);clear N;go_wp2_with fail;refine(ak.out _ A.out.ly.rd).mono ?_;rintro e w3 ⟨rfl,hu,J⟩;have C:=iF (A.out.turn hu J au.out);clear hu J A ak au b0 b4 a0 Z;generalize r.take z=y at*;obtain⟨r2,T⟩:=y;dsimp only at*;have av:=iF (Bq T);go_wp2_with fail;refine(av.out _).mono ?_;rintro e w5 ⟨rfl,hb⟩;have O4:=iF (C.out.below hb);clear hb C av;obtain⟨⟨y0,y1,y2⟩,f0,f1,f2⟩:=xS O4.out;go_wp2_with fail;rw[nO];have hF:=O4.out.put (ll T) (lu false) (lh none 0 0);exact Uq
   .obtain⟨E,rfl⟩:∃E:Nat,z=E:=⟨z.toNat,lK⟩
    have XB:iW (aI=(sZ ((r.comp E).1.take (r.comp E).2).2,((r.comp E).1.take (r.comp E).2).1,m)):=iF (by rw[<-N.out];exact Xx _ _ _ _ _ rfl);have Bw:=λW h=>Em cb lb fb m r E W h lK
    have htake:=λW J=>nU cb (r.comp E).1 (r.comp E).2 W (A.out.ly.ok.1.1.comp E) J
    have hk2:=uJ (r.comp E).1 (r.comp E).2;clear N b0 b4 a0 Z;generalize r.comp E=y1 at*;obtain⟨r1,n1⟩:=y1;dsimp only at*;generalize r1.take n1=y at*;obtain⟨r2,T⟩:=y;dsimp only at*;have O:=iF Bw;have af:=iF htake;have aO:=iF hk2;clear Bw htake hk2;have a0:w2.cell? ⟨g+1,0,none⟩=some (lg lH 3):=A.out.tb.cell 0;go_upto_region 12 with fail;refine Xt (g:=g) (cb:=cb) (lb:=lb) (fb:=fb) (r:=r) (r1:=r1) (r2:=r2) (l:=m) (k:=3) (m:=E) (n1:=n1) (T:=T) (ou:=ou) (nu:=n) (cu:=cu) (tl:=tl) (s:=s) (w0:=w) (ht2:=by rfl) (ht3:=by rfl) (Cu:=by rfl) (hsz:=by rfl) (Bw:=O.out) (htake:=af.out) (hk2:=aO.out) (hI0:=λ_=>A.out.drew) ?_;intro vs W hF;simp only[if_true]at hF;simp only[iN,iR,iT];have bE:=iF hF;clear hF A O af aO a0;go_wp2_with fail;have hF:=bE.out;exact Uq
   .have aP:s.length=1:=lK
    obtain⟨Q,rfl⟩:=List.length_eq_one_iff.1 aP;clear aP;obtain⟨E,rfl⟩:∃E:Nat,z=E:=⟨z.toNat,lK⟩;have XB:iW (aI=(qy (nE (nC d) (jY (r.comp E).2 (Q,true)) (r.comp E).1 m).1,(nE (nC d) (jY (r.comp E).2 (Q,true)) (r.comp E).1 m).2)):=iF (by rw[<-N.out];exact Xy _ _ _ _ _ rfl);have Bw:=λW h=>Em cb lb fb m r E W h lK
    have O:=iF Bw;have aQ:(r.comp E).2<=65536:=XA r E lK;clear N Bw;generalize r.comp E=y1 at*;obtain⟨r1,n1⟩:=y1;dsimp only at*;have ht1:Q.all mi=true/\Q.deep<=d:=by
     have ah:=aJ.out;have bF:=aK.out;simp only[lL.mR,Bool.and_true]at ah;simp only[lL.mG]at bF;exact⟨ah,lK⟩
    have bq:=iF aQ;clear aQ;go_wp2_with fail;refine(O.out _ A.out.ly).mono ?_;rintro e w3 ⟨rfl,hl,hu⟩;have C:=iF (A.out.Nk hl (uW hu));clear hl hu A O b0 b4 a0 Z;have aS:w3.cell? ⟨g,0,none⟩=some (yT cb):=C.out.rb.cell 0;have e1:w3.cell? ⟨g,1,none⟩=some (Ah cb):=C.out.rb.cell 1;have e2:w3.cell? ⟨g,2,none⟩=some (AU cb):=C.out.rb.cell 2;have e3:w3.cell? ⟨g,3,none⟩=some (zC cb):=C.out.rb.cell 3;have e4:w3.cell? ⟨g,4,none⟩=some (yU fb):=C.out.rb.cell 4;have e5:w3.cell? ⟨g,5,none⟩=some (lq (some ⟨lb,0,none⟩)):=C.out.rb.cell 5;have hsz:g+3<=w3.heap.size:=C.out.rs.lt;have ah:=C.out.lt;have hlen:(jY n1 (Q,true)).length=n1:=List.length_replicate
    have CL:=Q0 cb lb fb (g+1) 0 r1 m (jY n1 (Q,true)) (nC d) w3 C.out.ly (by rw[hlen];exact bq.out) ⟨lK,lK,lK⟩
     (λW r' ay hu hl i t ht=>by
      obtain⟨_,rfl⟩:=List.mem_replicate.1 (jc ht);have hb:=hu.blk C.out.tb lK lK;have hs:l9.lY W (QY cb lb) (lh ou n cu) [Q]:=Shape.lY.keep C.out.sub hu.size (λ_ _ h=>h.1) λc hc aa=>hu.block c hc aa.1.1 aa.1.2
      exact Xg (g+1) i ⟨4,E,tl⟩ Q ou n cu [Q] (QY cb lb) W hb hs rfl)
     (λt ht W r' ay az aA hu hl hs=>by
      obtain⟨_,rfl⟩:=List.mem_replicate.1 ht;exact ae.out Q cb lb fb r' ay W az aA ht1.2 ht1.1 hl ⟨by have:=hu.size;omega,by have:=hu.size;omega,by have:=hu.size;omega⟩ hs)
     (λt r l h=>Ev d t r l h)
    rw[hlen]at CL;have CL:=iF CL;clear hlen ah hsz ae ht1;generalize nE (nC d) (jY n1 (Q,true)) r1 m=y at*;obtain⟨ys,r2,l2⟩:=y;unfold yT Ah AU zC yU at CL;unfold yT at aS;unfold Ah at e1;unfold AU at e2;unfold zC at e3;unfold yU at e4;go_wp2_with fail;refine CL.out.mono ?_;rintro e w4 ⟨ov,cv,rfl,hl,hs,hu⟩;have O4:=iF (C.out.Nk hl hu);have HS:iW (∀c,w3.heap.size<=c->g+3<=c):=iF λc hc=>by have:=C.out.rs.lt;omega
    exact Uo
   .have XB:iW (aI=(qy (nE (nC d) (rZ s tl) r m).1,(nE (nC d) (rZ s tl) r m).2)):=iF (by rw[<-N.out];exact Xz _ _ _ _ _ rfl)
    clear N b0 b4 Z;have aS:w2.cell? ⟨g,0,none⟩=some (yT cb):=A.out.rb.cell 0;have e1:w2.cell? ⟨g,1,none⟩=some (Ah cb):=A.out.rb.cell 1;have e2:w2.cell? ⟨g,2,none⟩=some (AU cb):=A.out.rb.cell 2;have e3:w2.cell? ⟨g,3,none⟩=some (zC cb):=A.out.rb.cell 3;have e4:w2.cell? ⟨g,4,none⟩=some (yU fb):=A.out.rb.cell 4;have e5:w2.cell? ⟨g,5,none⟩=some (lq (some ⟨lb,0,none⟩)):=A.out.rb.cell 5;have bL:w2.cell? ⟨g+1,2,none⟩=some (lh ou n cu):=A.out.tb.cell 2;have hsz:g+3<=w2.heap.size:=A.out.rs.lt;have ah:=A.out.lt;have hlen:(rZ s tl).length=n:=by simp[rZ,aX.out]
    have aB:∀{k:Nat}{t':lL TL×Bool},(rZ s tl)[k]? =some t'->s[k]? =some t'.1/\t'.2=decide ((k:Int)<s.length - tl):=by
     intro k t' hk';unfold rZ at hk';rw[List.getElem?_mapIdx]at hk';obtain⟨t0,ht0,rfl⟩:=Option.map_eq_some_iff.1 hk';exact⟨ht0,rfl⟩
    have CL:=Q3 cb lb fb (g+1) g r m (rZ s tl) (nC d) w2 A.out.ly (by rw[hlen];omega) ⟨lK,lK,lK⟩
     (λW r' ay hu hl i t ht=>by
      obtain⟨bG,bH⟩:=aB ht;have hb:=hu.blk A.out.tb lK lK;have bu:=hu.blk A.out.rb lK lK;have hs:l9.lY W (QY cb lb) (lh ou n cu) s:=Shape.lY.keep A.out.sub hu.size (λ_ _ h=>h.1) λc hc aa=>hu.block c hc aa.1.1 aa.1.2
      rw[bH];exact Xj (g+1) g cb lb fb i r' ⟨5,z,tl⟩ t.1 ou n cu s (QY cb lb) W hb bu hl.rd hl.ok.1.1 hs bG (by have:=aX.out;omega) (by dsimp only;omega))
     (λt ht W r' ay az aA hu hl hs=>by
      obtain⟨i,hi⟩:=List.getElem?_of_mem ht;have bz:=jc (aB hi).1;exact ae.out t.1 cb lb fb r' ay W az aA (je (ym bz) aK.out) (uH aJ.out bz) hl ⟨by have:=hu.size;omega,by have:=hu.size;omega,by have:=hu.size;omega⟩ hs)
     (λt r l h=>Ev d t r l h)
    rw[hlen]at CL;have CL:=iF CL;clear hlen ah hsz ae aB;generalize nE (nC d) (rZ s tl) r m=y at*;obtain⟨ys,r2,l2⟩:=y;unfold yT Ah AU zC yU at CL;unfold yT at aS;unfold Ah at e1;unfold AU at e2;unfold zC at e3;unfold yU at e4;go_wp2_with fail;refine CL.out.mono ?_;rintro e w4 ⟨ov,cv,rfl,hl,hs,hu⟩;have O4:=iF (A.out.Nk hl hu);have HS:iW (∀c,w2.heap.size<=c->g+3<=c):=iF λc hc=>by have:=A.out.rs.lt;omega
    exact Uo
structure Ur(g cb fb xb:Nat)(r:RS)(T:ByteArray)(li:Bool)(ov:Option kr)(n cv:Nat)(s:List (lL IL))(w0:iH)(rc:Array iJ)(W:iH):Prop where
 rd:tT W cb r
 fr:lN W fb #[lq (some ⟨cb,0,none⟩)] 193
 xk:lN W xb #[ll T,lu li,lh ov n cv] IT
 rs:lN W (g+1) rc IT
 sub:lX W (λc=>g+2<=c) (lh ov n cv) s
 nV:iK g w0 W
 lt:g+1<cb/\g+1<fb/\g+1<xb
section
variable {g cb fb xb:Nat}{r:RS}{T:ByteArray}{li:Bool}{ov:Option kr}{n cv:Nat}{s:List (lL IL)}{w0 W W':iH}{rc:Array iJ}
theorem Ur.drew(h:Ur g cb fb xb r T li ov n cv s w0 rc W):Ur g cb fb xb r T li ov n cv s w0 rc W.drew:=
 ⟨h.rd,h.fr,h.xk,h.rs,Shape.lY.below h.sub (mf W),h.nV.trans ((mf W).mono (by have:=h.rs.lt;omega)),h.lt⟩
theorem Ur.put(h:Ur g cb fb xb r T li ov n cv s w0 yM W)(a b c:iJ):Ur g cb fb xb r T li ov n cv s w0 #[a,b,c] (nA W (g+1) a b c):=by
 have C:=h.lt;have A:∀d,d≠g+1->(nA W (g+1) a b c).heap[d]? =W.heap[d]? :=λd hd=>by simp[nA,jf,jK,Ne.symm hd]
 have hs:(nA W (g+1) a b c).heap.size=W.heap.size:=by simp[nA,jf]
 have o:∀{d:Nat}{cs:Array iJ}{t:jg},lN W d cs t->d≠g+1->lN (nA W (g+1) a b c) d cs t:=λh hn=>by unfold lN at*;rw[A _ hn];exact h
 exact⟨o h.rd lK,o h.fr lK,o h.xk lK,((h.rs.set 0 a).set 1 b).set 2 c,Shape.lY.keep h.sub (kX hs.symm) (λ_ _ h=>h) (λd _ hd=>A d (by have:g+2<=d:=hd;omega)),
  ((h.nV.setCell (p:=⟨g+1,0,none⟩) (jF g) _).setCell (p:=⟨g+1,1,none⟩) (jF g) _).setCell (p:=⟨g+1,2,none⟩) (jF g) _,h.lt⟩
end
def Au:List kH:=[⟨some 41,.load 47 (.tmp 12),47,"layout.go:77",#[],none⟩,⟨some 42,.load 193 (.tmp 9),193,"layout.go:77",#[],none⟩,⟨some 43,.call {callee:=.value (.func 212),args:=#[.tmp 42],argTypes:=#[193]},3,"layout.go:77",#[⟨1,.data⟩],none⟩,⟨none,.store 47 (.tmp 6) (.tmp 41),0,"layout.go:77",#[⟨0,.data⟩,⟨2,.chain⟩,⟨0,.phase⟩,⟨1,.textOnly .lateStores⟩,⟨2,.textOnly .lateStoresUnsure⟩],none⟩,⟨some 7,.assign (.tmp 43),3,"layout.go:77",#[⟨2,.data⟩,⟨3,.chain⟩,⟨0,.phase⟩,⟨1,.phase⟩,⟨2,.phase⟩,⟨3,.phase⟩],none⟩,⟨some 8,.assign (.const (.int .i64 0)),36,"layout.go:77",#[⟨4,.chain⟩,⟨0,.phase⟩,⟨1,.phase⟩,⟨2,.phase⟩,⟨3,.phase⟩,⟨4,.phase⟩],none⟩]
section
variable (g cb fb xb:Nat)(r:RS)(T:ByteArray)(li:Bool)(ov:Option kr)(n cv:Nat)(s:List (lL IL))(w0:iH)
def xU:Nat->iJ
 |0=> lC #[ll T,lu li,lh ov n cv]
 |1=> lq (some ⟨cb,0,none⟩)
 |2=> lg lH r.p
 |4=> lg lH r.p
 |5=> lg lH 0
 |_=>jo
structure ZK(D:Nat->Bool)(vs:Nat->iJ)(w:iH):Prop where
 mh:Ur g cb fb xb r T li ov n cv s w0 (if(D 3)=true then#[ll T,lu li,lh ov n cv]else yM) w
 val:∀j,(true)=true->D j=true->vs j=xU cb r T li ov n cv j
variable {g cb fb xb r T li ov n cv s w0}
theorem Us{id:Nat}{Q:Exit->Act->iH->Prop}{a0:Act}{O:iH}(XC:a0.tmps.getD 12 jo=lq (some ⟨xb,0,none⟩))(Gi:a0.tmps.getD 9 jo=lq (some ⟨fb,0,none⟩))(vT:a0.tmps.getD 6 jo=lq (some ⟨g+1,0,none⟩))(hsz:a0.tmps.size=44)(hI0:∀vs:Nat->iJ,(λw=>Ur g cb fb xb r T li ov n cv s w0 (if false=true then#[ll T,lu li,lh ov n cv]else yM) w) O.drew)(U:∀(vs:Nat->iJ) (w:iH),Ur g cb fb xb r T li ov n cv s w0 (if true=true then#[ll T,lu li,lh ov n cv]else yM) w->Q .normal {a0 with tmps:=(((((a0.tmps.setIfInBounds 41 (lC #[ll T,lu li,lh ov n cv])).setIfInBounds 42 (lq (some ⟨cb,0,none⟩))).setIfInBounds 43 (lg lH r.p)).setIfInBounds 7 (lg lH r.p)).setIfInBounds 8 (lg lH 0))} w):
  (jJ id Au.toArray true).wp iG Q a0 O:=by
 refine l6 6 44 (ZK g cb fb xb r T li ov n cv s w0) lQ hsz lQ (.inl rfl) lQ ?_ ?_ ?_;.exact oo
 .refine pO λA aa=> ?_
  clear hI0 U hsz;replace XC:=iF XC;replace Gi:=iF Gi;replace vT:=iF vT;unfold Au;simp only[ji,jC,o6];refine⟨?_,?_,?_,?_,?_,?_,trivial⟩<;>(intro D vs a w K hI hd E hw2 C J;subst aa;unfold Au);have ah:=(C 12 lM).trans XC.out;have hB:=hI.mh.xk;obtain⟨c0,c1,c2⟩:=hB.a3;clear hB;rotate_left;have aj:=(C 9 lM).trans Gi.out;have hB:=hI.mh.fr;have c0:=hB.c0;clear hB;rotate_left
  .have V:=fe C hI.val E 42 1
   simp only[xU]at V;have ae:=PX cb r w hI.mh.rd;rw[if_pos (by rfl)];go_simp;refine ae.mono ?_;rintro e ak ⟨rfl,rfl⟩;exact J (xU cb r T li ov n cv 2) _ _ rfl ⟨hI.mh,ry hI.val⟩
  .have au:=(C 6 lM).trans vT.out
   have Y:=fe C hI.val E 41 0;simp only[xU]at Y;have N:=hI.mh;rw[hd]at N;have hB:=N.rs;have z0:=hB.cell 0;have af:=hB.cell 1;have ag:=hB.cell 2;obtain⟨av,f1,f2⟩:=hB.f3;simp only[yM,j4,if_false,iP,iO,iM]at z0 af ag;clear hB;go_simp;rw[nO];refine J jo _ _ rfl ⟨?_,ry hI.val⟩;rw[l7];exact Ur.put N _ _ _
  have ai:=fe C hI.val E 43 2;rotate_left;rotate_left
  all_goals
   try simp only[xU]at*
   go_simp;exact J _ _ _ rfl ⟨hI.mh,ry hI.val⟩
 .intro D vs w Z hI
  have E:=hI.mh;rw[Z 3 lM]at E;have q:=U vs w E;rw[mQ hI.val Z];unfold Au;exact om
end
theorem Ew{B b q:Nat}{w0 w w':iH}(h:iK B w0 w)(u:mH b q w w')(hb:B<=b)(A:B<=q)(hB:B<=w.heap.size):iK B w0 w':=
 ⟨u.os.trans h.os,u.tape.trans h.tape,u.output.trans h.output,je h.size u.size,λk hk=>(u.block k lK lK lK).trans (h.block k hk)⟩
def Ih(R:Except Nat (lL IL×Nat))(w:iH)(e:Ending)(w':iH):Prop:=iK w.heap.size w w'/\match R with
 | .error er=>e=lF (lD #[lC #[ll ⟨#[]⟩,lu false,lh none 0 0],lg lH 0,lg lH (er:Nat)])
 | .ok y=>∃ov cv,e=lF (lD #[lC #[ll (txt y.1.lab),lu y.1.lab.list,lh ov y.1.sub.length cv],lg lH (y.2:Nat),lg lH 0])/\lX w' (λc=>w.heap.size+2<=c) (lh ov y.1.sub.length cv) y.1.sub
theorem Yv{r r':RS}(h:0<=r.f):∀n x m,0<=(r.take n).1.f/\(0<=x->0<=(r.fail x).f)/\0<=(r.comp m).1.f:=by
 intro n x m;refine⟨RS.sM r n h,λA=>RS.vV r A h,?_⟩;unfold RS.comp;split
 .generalize pq (r.t.data.toList.drop r.p)=q
  dsimp only;split;.exact Int.le_refl _
  .exact Int.natCast_nonneg _
 .exact h
theorem Ex{f:lL TL->RS->Nat->WV}(A:∀t r l,0<=r.f->0<=(f t r l).2.1.f):∀(ts:List (lL TL×Bool))(r:RS)(l:Nat),0<=r.f->0<=(nE f ts r l).2.1.f
 |[],r,l,h=>h
 |t::ts,r,l,h=>by
  unfold nE;split;.exact Ex A ts _ _ (A _ _ _ h)
  .exact h
theorem xV:∀(d:Nat)(t:lL TL)(r:RS)(l:Nat),0<=r.f->0<=(nC d t r l).2.1.f
 |0,_,r,l,h=>RS.vV r lM h
 |d+1,.node a s,r,l,h=>by
  unfold nC;split;.exact RS.vV r lM h
  .split
   .exact RS.sM _ _ h
   .split
    .exact RS.sM _ _ h
    .split
     .exact RS.sM _ _ (Yv (r':=r) h 0 0 _).2.2
     .split
      .cases s with
       |nil=>exact RS.vV r lM h
       |cons t ts=>exact Ex (xV d) _ _ _ (Yv (r':=r) h 0 0 _).2.2
      .exact Ex (xV d) _ _ _ h
theorem Ut(h:p:=by
 subst hW;have a1:=(iL w.heap.size w).alloc (iI _) (lG #[lg lH t.lab.kind,lg lH t.lab.size,lh ou t.sub.length cu,lg lH t.lab.tail] pV);have a2:=a1.alloc lU (lG #[ll ⟨#[]⟩,lu false,lh none 0 0] IT);have k1:=lN.new w #[lg lH t.lab.kind,lg lH t.lab.size,lh ou t.sub.length cu,lg lH t.lab.tail] pV;have k2:=lN.new (w.alloc (lG #[lg lH t.lab.kind,lg lH t.lab.size,lh ou t.sub.length cu,lg lH t.lab.tail] pV)) #[ll ⟨#[]⟩,lu false,lh none 0 0] IT;rw[show(w.alloc (lG #[lg lH t.lab.kind,lg lH t.lab.size,lh ou t.sub.length cu,lg lH t.lab.tail] pV)).heap.size=g+1 by simp[hg]]at k2;rw[hg]at k1;exact⟨k1.alloc _,k2,hg▸a2,by simp[hg]⟩):p:=h
theorem Uu(t:lL TL)(s:ByteArray)(items:Int)(w:iH)(ou:Option kr)(cu:Nat)(aj:mD w (lh ou t.sub.length cu) t.sub)(bg:oG w)(ak:yK w)(af:(lL.mR p0 t.sub&&nG t)=true)(hs:s.size<=100000)(hi:0<=items/\items<=1024):
  iU iG 170 #[lC #[lg lH t.lab.kind,lg lH t.lab.size,lh ou t.sub.length cu,lg lH t.lab.tail],ll s,lg lH items] w (Ih (Fq t s items) w):=by
 have cB:∀(fn:Fn)(first cap:Array iJ)(w:iH),(kL fn first cap).run iG w=.ok (.func fn first cap) w:=λ_ _ _ _=>rfl
 have au:nG t=true:=by simp only[iY]at af;exact af.2
 have A:=au;unfold nG at A;simp only[iY,decide_eq_true_eq]at A;obtain⟨g,hg⟩:=lV w.heap.size;have aM:=bg.lt;have bq:iW (∀W,iK g w W->_):=iF λW h=>Gc t W (lh ou t.sub.length cu) (Shape.lY.below aj (hg.symm▸h)) (bg.below (hg.symm▸h) aM)
 rw[af]at bq;obtain⟨left,ag⟩:∃left:Nat,items=left:=⟨items.toNat,lK⟩;have av:(min items 1024).toNat=left:=lK;obtain⟨bu,aK⟩:=lV (nC 8 t (RS.of s) left);have ax:iW (Fq t s items=if bu.2.1.f≠0 then .error bu.2.1.f.toNat else .ok (bu.1,bu.2.1.p)):=iF (by unfold Fq;rw[av,aK]);have bG:iW (0<=bu.2.1.f):=iF (aK▸xV 8 t (RS.of s) left (Int.le_refl _));have aN:iW (∀W cb lb fb,iK g w W->yV cb lb fb (RS.of s) left W->(cb<W.heap.size/\lb<W.heap.size/\fb<W.heap.size)->g<=cb->g<=lb->iU iG 211 #[lC #[yT cb,Ah cb,AU cb,zC cb,yU fb,lq (some ⟨lb,0,none⟩)],lC #[lg lH t.lab.kind,lg lH t.lab.size,lh ou t.sub.length cu,lg lH t.lab.tail]] W (KO cb lb fb bu W)):=iF λW cb lb fb hb hl hc aL ah=>by
  rw[<-aK];exact Q4 8 t cb lb fb (RS.of s) left W ou cu A.1.2 A.2 hl hc (Shape.lY.keep aj (hg▸hb.size:w.heap.size<=W.heap.size) (λc bH _=>⟨lK,lK⟩) λc bH _=>hb.block c lK)
 have aO:iW (∀W,iK g w W->yK W):=iF λW hb=>tu ak (mH.of (b:=g) (q:=g) (hg.symm▸hb)) (by have:=ak.lt;omega) (by have:=ak.lt;omega)
 have bI:iW (0<g):=iF (hg▸ak.lt);have aP:iW (∀W,(w.alloc (lG #[lg lH t.lab.kind,lg lH t.lab.size,lh ou t.sub.length cu,lg lH t.lab.tail] pV)).alloc (lG #[ll ⟨#[]⟩,lu false,lh none 0 0] IT)=W->lN W g #[lg lH t.lab.kind,lg lH t.lab.size,lh ou t.sub.length cu,lg lH t.lab.tail] pV/\lN W (g+1) yM IT/\iK g w W/\W.heap.size=g+2):=iF λW hW=>by
  exact Ut
 have aQ:iW (∀W,iU iG 144 #[ll s] W λe w'=>e=lF (lq (some ⟨W.heap.size,0,none⟩))/\iK W.heap.size W w'/\W.heap.size<w'.heap.size/\tT w' W.heap.size (RS.of s)):=iF (xe s);have aR:iW (((RS.of s).Ok/\(RS.of s).t.size<=100000)/\left<=1024):=iF ⟨⟨RS.Ok.of lK,hs⟩,lK⟩;have cK:(if items<=1024 then items else 1024)=(left:Int):=by rw[if_pos hi.2,ag]
 have bR:min items 1024=(left:Int):=lK;obtain⟨bz,aS⟩:=lV (Fq t s items);rw[aS]at ax⊢;obtain⟨bS,bA⟩:=lV (Ih bz w);have bJ:=iF bA;rw[bA];clear bA;subst ag;clear aj bg ak af hs hi au A aM av aK aS;generalize t.lab.kind=k at*;generalize t.lab.size=z at*;generalize t.lab.tail=tl at*;generalize t.sub.length=n at*;go_in;go_upto_region 1 with fail;obtain⟨ay,aT,aU,aV⟩:=aP.out _ rfl;generalize (w.alloc _).alloc _=w1 at*;obtain⟨⟨t0,bK,bL,t3⟩,_⟩:=mg ay;have N:=iF (iQ ay (iQ aT (iQ aU aV)));clear aP ay aT aU aV;go_wp2_with fail;refine(bq.out _ N.out.2.2.1).mono ?_;rintro e w2 ⟨rfl,Q⟩;have C:iW (lN w2 g #[lg lH k,lg lH z,lh ou n cu,lg lH tl] pV/\lN w2 (g+1) yM IT/\iK g w w2/\g+2<=w2.heap.size):=iF ⟨Below.blk Q N.out.1 N.out.1.lt,Below.blk Q N.out.2.1 N.out.2.1.lt,N.out.2.2.1.trans (Q.mono (by have:=N.out.2.2.2;omega)),by have:=Q.size;have:=N.out.2.2.2;omega⟩;clear Q N t0 bK bL t3 bq;go_wp2_with fail;refine(aQ.out _).mono ?_;rintro e w3 ⟨rfl,U,aa,az⟩;obtain⟨cb,V⟩:=lV w2.heap.size;rw[V]at U aa az⊢;have aA:iW (lN w3 g #[lg lH k,lg lH z,lh ou n cu,lg lH tl] pV/\lN w3 (g+1) yM IT/\iK g w w3/\g+2<=cb/\cb<w3.heap.size/\tT w3 cb (RS.of s)):=iF ⟨Below.blk (V.symm▸U) C.out.1 C.out.1.lt,Below.blk (V.symm▸U) C.out.2.1 C.out.2.1.lt,C.out.2.2.1.trans (U.mono (by have:=C.out.2.2.2;omega)),V▸C.out.2.2.2,aa,az⟩;clear U aa az C V;obtain⟨q,Y⟩:=lV w3.heap.size;have aB:iW (∀W,((w3.alloc (lG #[lq (some ⟨cb,0,none⟩)] 193)).alloc (lG #[lg lH (left:Nat)] 3)).alloc (lG #[.func (.func 145) #[lq (some ⟨cb,0,none⟩)] #[],.func (.func 191) #[lq (some ⟨cb,0,none⟩)] #[],.func (.func 146) #[lq (some ⟨cb,0,none⟩)] #[],.func (.func 189) #[lq (some ⟨cb,0,none⟩)] #[],.func (.func 209) #[] #[lq (some ⟨w3.heap.size,0,none⟩)],lq (some ⟨w3.heap.size+1,0,none⟩)] Cw)=W->yV cb (q+1) q (RS.of s) left W/\lN W (q+2) (Ce cb (q+1) q) Cw/\lN W g #[lg lH k,lg lH z,lh ou n cu,lg lH tl] pV/\lN W (g+1) yM IT/\iK g w W/\W.heap.size=q+3):=iF λW hW=>by
  subst hW;rw[Y];obtain⟨aL,ah,bB,bT,cZ,bM⟩:=aA.out;have a1:=(iL w3.heap.size w3).alloc (iI _) (lG #[lq (some ⟨cb,0,none⟩)] 193);have a2:=a1.alloc lU (lG #[lg lH (left:Nat)] 3);have a3:=a2.alloc lW (lG (Ce cb (q+1) q) Cw);have k1:=lN.new w3 #[lq (some ⟨cb,0,none⟩)] 193;have k2:=lN.new (w3.alloc (lG #[lq (some ⟨cb,0,none⟩)] 193)) #[lg lH (left:Nat)] 3;have bN:=lN.new ((w3.alloc (lG #[lq (some ⟨cb,0,none⟩)] 193)).alloc (lG #[lg lH (left:Nat)] 3)) (Ce cb (q+1) q) Cw;rw[show(w3.alloc (lG #[lq (some ⟨cb,0,none⟩)] 193)).heap.size=q+1 by simp[Y]]at k2;rw[show((w3.alloc (lG #[lq (some ⟨cb,0,none⟩)] 193)).alloc (lG #[lg lH (left:Nat)] 3)).heap.size=q+2 by simp[Y]]at bN;rw[Y]at k1;have cO:=bI.out;have aC:iK g w (((w3.alloc (lG #[lq (some ⟨cb,0,none⟩)] 193)).alloc (lG #[lg lH (left:Nat)] 3)).alloc (lG (Ce cb (q+1) q) Cw)):=bB.trans (a3.mono lK);exact⟨⟨Below.blk a3 bM (lN.lt bM),aR.out,(k2.alloc _),(k1.alloc _).alloc _,aO.out _ aC,lK⟩,bN,Below.blk a3 aL aL.lt,Below.blk a3 ah ah.lt,aC,by simp[Y]⟩
 rw[Y]at aB;go_upto_region 6 with fail;obtain⟨aD,E,aW,aF,aG,aX⟩:=aB.out _ rfl;generalize ((w3.alloc _).alloc _).alloc _=w4 at*;have aY:=aA.out;rw[Y]at aY;obtain⟨_,_,_,aH,aI,_⟩:=aY;obtain⟨⟨t0,bK,bL,t3⟩,_⟩:=mg aW;have bU:w4.cell? ⟨q+2,0,none⟩=some (yT cb):=E.cell 0;have e1:w4.cell? ⟨q+2,1,none⟩=some (Ah cb):=E.cell 1;have e2:w4.cell? ⟨q+2,2,none⟩=some (AU cb):=E.cell 2;have e3:w4.cell? ⟨q+2,3,none⟩=some (zC cb):=E.cell 3;have e4:w4.cell? ⟨q+2,4,none⟩=some (yU q):=E.cell 4;have e5:w4.cell? ⟨q+2,5,none⟩=some (lq (some ⟨q+1,0,none⟩)):=E.cell 5;have O:=aN.out w4 cb (q+1) q aG aD lK lK lK;unfold yT at bU O;unfold Ah at e1 O;unfold AU at e2 O;unfold zC at e3 O;unfold yU at e4 O;have O:=iF O;have bO:=iF (iQ aD (iQ aF (iQ aG aX)));have bP:iW (g+2<=cb/\cb<q):=iF ⟨aH,aI⟩;clear aB aN aO aR aA aQ aD E aW aF aG aX Y aH aI;obtain⟨x,r2,l2⟩:=bu;dsimp only at*;go_wp2_with fail;refine O.out.mono ?_;rintro e w5 ⟨ov,cv,rfl,J,aJ,Z⟩;dsimp only at J aJ;have aZ:iW (∀W,w5.alloc (lG #[ll (txt x.lab),lu x.lab.list,lh ov x.sub.length cv] IT)=W->Ur g cb q w5.heap.size r2 (txt x.lab) x.lab.list ov x.sub.length cv x.sub w yM W):=iF λW hW=>by
  subst hW;obtain⟨aL,ah,bB,bT⟩:=bO.out;obtain⟨df,dh⟩:=bP.out;have a:=(iL w5.heap.size w5).alloc (iI _) (lG #[ll (txt x.lab),lu x.lab.list,lh ov x.sub.length cv] IT);have dw:=Z.size;refine⟨Below.blk a J.rd (lN.lt J.rd),Below.blk a J.fr J.fr.lt,lN.new w5 _ _,Below.blk a (Z.blk ah lK lK) (Z.blk ah lK lK).lt,Shape.lY.keep (Shape.lY.below aJ a) (iI _) (λc _ hc=>by have:w4.heap.size<=c:=hc;show g+2<=c;omega) λ_ _ _=>rfl,(Ew bB Z lK lK lK).trans (a.mono lK),lK⟩
 clear J aJ Z bO bP O;go_upto_region 7 with fail;have hL:=aZ.out _ rfl;generalize w5.alloc _=bV at*;generalize w5.heap.size=xb at*;have ae:=iF hL;have dx:=hL.fr.c0;have bQ:=iF (nR cb r2 bV hL.rd);clear hL aZ;go_wp2_with fail;refine bQ.out.mono ?_;rintro e dz ⟨rfl,rfl⟩;clear bQ;by_cases ai:r2.f=0
 .have bW:(r2.f !=0)=false:=by simp[ai]
  have bC:iW (bz=.ok (x,r2.p)):=iF (by rw[ax.out,if_neg (by simpa using ai)]);clear ai ax;go_upto_region 10 with fail;refine Us (g:=g) (cb:=cb) (fb:=q) (xb:=xb) (r:=r2) (T:=txt x.lab) (li:=x.lab.list) (ov:=ov) (n:=x.sub.length) (cv:=cv) (s:=x.sub) (w0:=w) (XC:=by rfl) (Gi:=by rfl) (vT:=by rfl) (hsz:=by rfl) (hI0:=λ_=>ae.out.drew) ?_;intro vs W hF;simp only[if_true]at hF;simp only[iN,iR,iT];have bX:=iF hF;clear hF ae;go_wp2_with fail;have hF:=bX.out;obtain⟨bD,bE,bF⟩:=hF.rs.a3;refine iV (v:=lD #[lC #[ll (txt x.lab),lu x.lab.list,lh ov x.sub.length cv],lg lH (r2.p:Nat),lg lH 0]) (by simp[jr,Tryz.results170,go_sem,bD,bE,bF]) rfl ?_;rw[<-bJ.out,bC.out];exact⟨hg.symm▸hF.nV,ov,cv,rfl,hg.symm▸hF.sub⟩
 .have bW:(r2.f !=0)=true:=by simp[ai]
  have bC:iW (bz=.error r2.f.toNat):=iF (by rw[ax.out,if_pos ai]);clear ai ax;have bY:=ae.out.rs.cell 0;have bZ:=ae.out.rs.cell 1;have cz:=ae.out.rs.cell 2;obtain⟨z0,dA,dB⟩:=ae.out.rs.f3;simp only[yM,iP,iO,iM]at bY bZ cz;go_wp2_with fail;rw[nO];have hF:=ae.out.put (ll ⟨#[]⟩) (lu false) (lh none 0 0);obtain⟨bD,bE,bF⟩:=hF.rs.a3;refine iV (v:=lD #[lC #[ll ⟨#[]⟩,lu false,lh none 0 0],lg lH 0,lg lH r2.f]) (by simp[jr,Tryz.results170,go_sem,bD,bE,bF]) rfl ?_;rw[<-bJ.out,bC.out];have:((r2.f.toNat:Nat):Int)=r2.f:=Int.toNat_of_nonneg bG.out;exact⟨hg.symm▸hF.nV,by show _=jP (lD #[lC #[ll ⟨#[]⟩,lu false,lh none 0 0],lg lH 0,lg lH ((r2.f.toNat:Nat):Int)]);rw[this]⟩
def a1n(R:Except Nat (lL IL×Nat))(n:Nat):Except Nat (lL IL):=match R with
 | .error er=> .error er
 | .ok y=>if y.2<n then .error 3 else .ok y.1
theorem XD(t:lL TL)(s:ByteArray)(items:Int)(w:iH)(ou:Option kr)(cu:Nat)(az:mD w (lh ou t.sub.length cu) t.sub)(aI:oG w)(au:yK w)(aA:(lL.mR p0 t.sub&&nG t)=true)(hs:s.size<=100000)(hi:0<=items/\items<=1024):
  iU iG 119 #[lC #[lg lH t.lab.kind,lg lH t.lab.size,lh ou t.sub.length cu,lg lH t.lab.tail],ll s,lg lH items] w (yJ (Ki t s items) w):=by
 obtain⟨g,hg⟩:=lV w.heap.size;have aB:=aI.lt;have aJ:iW (∀W,iK g w W->iU _ _ _ W (Ih (Fq t s items) W)):=iF λW h=>Uu t s items W ou cu (Shape.lY.below az (hg.symm▸h)) (aI.below (hg.symm▸h) aB) (tu au (mH.of (b:=g) (q:=g) (hg.symm▸h)) (by have:=au.lt;omega) (by have:=au.lt;omega)) aA hs hi
 have aC:iW (∀W,(w.alloc (lG #[lg lH t.lab.kind,lg lH t.lab.size,lh ou t.sub.length cu,lg lH t.lab.tail] pV)).alloc (lG #[ll ⟨#[]⟩,lu false,lh none 0 0] IT)=W->lN W g #[lg lH t.lab.kind,lg lH t.lab.size,lh ou t.sub.length cu,lg lH t.lab.tail] pV/\lN W (g+1) yM IT/\iK g w W/\W.heap.size=g+2):=iF λW hW=>by
  exact Ut
 obtain⟨R,av⟩:=lV (Fq t s items);have V:iW (Ki t s items=a1n R s.size):=iF (by rw[<-av];rfl);have Y:iW (∀er,R=.error er->1<=er):=iF λer h=>by
  have bq:=xV 8 t (RS.of s) (min items 1024).toNat (Int.le_refl _);rw[<-av]at h;unfold Fq at h;split at h;.cases h;omega
  .cases h
 rw[av]at aJ;obtain⟨Z,aD⟩:=lV (Ki t s items);rw[aD]at V⊢;obtain⟨aT,aK⟩:=lV (yJ Z w);have aL:=iF aK;rw[aK];clear az aI au aA hi aB av aD aK;generalize t.lab.kind=k at*;generalize t.lab.size=z at*;generalize t.lab.tail=tl at*;generalize t.sub.length=n at*;go_in;go_upto_region 1 with fail;obtain⟨aF,aG,aa,aH⟩:=aC.out _ rfl;generalize (w.alloc _).alloc _=w1 at*;obtain⟨⟨t0,bu,bz,t3⟩,_⟩:=mg aF;have O:=iF (iQ aG (iQ aa aH));have ae:=iF (aJ.out _ aa);clear aC aF aG aa aH aJ;go_wp2_with fail;refine ae.out.mono ?_;intro e w2 A;unfold Ih at A;have J:iW (∀(bA:Ending)(T:ByteArray)(li:Bool)(sv:iJ),iK g w w2/\lN w2 (g+1) yM IT):=iF λ_ _ _ _=>⟨O.out.2.1.trans (A.1.mono (by have:=O.out.2.2;omega)),Below.blk A.1 O.out.1 O.out.1.lt⟩
 have aU:g+2<=w2.heap.size:=by have:=A.1.size;have:=O.out.2.2;omega
 cases R with
 |error er=>
  obtain⟨hb,rfl⟩:=A;have aR:=Y.out er rfl;have aV:((er:Int) !=0)=true:=lW;have Q:iW (Z=.error er):=V;have af:iW (∀W,w2.alloc (lG #[ll ⟨#[]⟩,lu false,lh none 0 0] IT)=W->lN W (g+1) yM IT/\iK g w W):=iF λW hW=>by
   subst hW;have al:=(iL w2.heap.size w2).alloc (iI _) (lG #[ll ⟨#[]⟩,lu false,lh none 0 0] IT);obtain⟨aM,ag⟩:=J.out (lF (lg lH 0)) ⟨#[]⟩ false (lg lH 0);exact⟨Below.blk al ag ag.lt,aM.trans (al.mono lK)⟩
  clear hb O ae J aR Y V;go_upto_region 2 with fail;obtain⟨hB,E⟩:=af.out _ rfl;generalize w2.alloc _=w3 at*;have aN:=hB.cell 0;have aO:=hB.cell 1;have aP:=hB.cell 2;obtain⟨z0,aW,aX⟩:=hB.f3;simp only[yM,iP,iO,iM]at aN aO aP;have ax:=iF hB;have N:=iF E;clear hB E af;go_wp2_with fail;rw[nO];obtain⟨hB,hb⟩:=wo (a:=ll ⟨#[]⟩) (b:=lu false) (c:=lh none 0 0) ⟨_,_,_,ax.out⟩ (g:=g+1) (w:=w3) (W:=w3) (iL _ _);obtain⟨ah,ai,aj⟩:=hB.a3;refine iV (v:=lD #[lC #[ll ⟨#[]⟩,lu false,lh none 0 0],lg lH (er:Nat)]) (by simp[jr,Tryz.results119,go_sem,ah,ai,aj]) rfl ?_;rw[<-aL.out,Q.out];exact⟨rfl,hg.symm▸N.out.trans (hb.mono (jF g))⟩
 |ok y=>
  obtain⟨x,m⟩:=y;obtain⟨hb,ov,cv,rfl,C⟩:=A;dsimp only at C;have Q:iW (Z=if m<s.size then .error 3 else .ok x):=V;have af:iW (∀W,w2.alloc (lG #[ll (txt x.lab),lu x.lab.list,lh ov x.sub.length cv] IT)=W->lN W (g+1) yM IT/\iK g w W/\lN W w2.heap.size #[ll (txt x.lab),lu x.lab.list,lh ov x.sub.length cv] IT/\lX W (λc=>g+2<=c) (lh ov x.sub.length cv) x.sub):=iF λW hW=>by
   subst hW;have al:=(iL w2.heap.size w2).alloc (iI _) (lG #[ll (txt x.lab),lu x.lab.list,lh ov x.sub.length cv] IT);obtain⟨aM,ag⟩:=J.out (lF (lg lH 0)) ⟨#[]⟩ false (lg lH 0);exact⟨Below.blk al ag ag.lt,aM.trans (al.mono lK),lN.new w2 _ _,Shape.lY.keep (Shape.lY.below C al) (iI _) (λc _ hc=>by have:w1.heap.size+2<=c:=hc;have:=O.out.2.2;show g+2<=c;omega) λ_ _ _=>rfl⟩
  clear hb C ae J Y V;go_upto_region 2 with fail;obtain⟨hB,E,ay,C⟩:=af.out _ rfl;generalize w2.alloc _=w3 at*;generalize w2.heap.size=xb at*;have aN:=hB.cell 0;have aO:=hB.cell 1;have aP:=hB.cell 2;obtain⟨z0,aW,aX⟩:=hB.f3;have aY:=ay.cell 0;have aZ:=ay.cell 1;have bg:=ay.cell 2;simp only[yM,iP,iO,iM]at aN aO aP aY aZ bg;have ax:=iF hB;have N:=iF E;have aQ:=iF C;clear hB E af ay C O;by_cases U:m<s.size
  .have t0:decide (m<s.size)=true:=by simp[U]
   have ak:iW (Z=.error 3):=iF (by rw[Q.out,if_pos U]);have aS:=hs;clear Q U;go_wp2_with fail;rw[nO];obtain⟨hB,hb⟩:=wo (a:=ll ⟨#[]⟩) (b:=lu false) (c:=lh none 0 0) ⟨_,_,_,ax.out⟩ (g:=g+1) (w:=w3) (W:=w3) (iL _ _);obtain⟨ah,ai,aj⟩:=hB.a3;refine iV (v:=lD #[lC #[ll ⟨#[]⟩,lu false,lh none 0 0],lg lH 3]) (by simp[jr,Tryz.results119,go_sem,ah,ai,aj]) rfl ?_;rw[<-aL.out,ak.out];exact⟨rfl,hg.symm▸N.out.trans (hb.mono (jF g))⟩
  .have t0:decide (m<s.size)=false:=by simp[U]
   have ak:iW (Z=.ok x):=iF (by rw[Q.out,if_neg U]);have aS:=hs;clear Q U;go_wp2_with fail;rw[nO];obtain⟨hB,hb⟩:=wo (a:=ll (txt x.lab)) (b:=lu x.lab.list) (c:=lh ov x.sub.length cv) ⟨_,_,_,ax.out⟩ (g:=g+1) (w:=w3) (W:=w3) (iL _ _);obtain⟨ah,ai,aj⟩:=hB.a3;refine iV (v:=lD #[lC #[ll (txt x.lab),lu x.lab.list,lh ov x.sub.length cv],lg lH 0]) (by simp[jr,Tryz.results119,go_sem,ah,ai,aj]) rfl ?_;rw[<-aL.out,ak.out];refine⟨_,rfl,Shape.lY.keep aQ.out (by simp[nA,jf]) (λc _ hc=>by have:g+2<=c:=hc;show w.heap.size<=c;omega) λc _ hc=> ?_,hg.symm▸N.out.trans (hb.mono (jF g))⟩;have:g+2<=c:=hc;simp[nA,jf,jK,show g+1≠c by omega,show¬g+1=c by omega]
end
end Go.Proofs.YtamfcjmhnndbdaaGreatDoor


