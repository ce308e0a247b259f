/- WholeTyped: for every input the call returns true, and each argument reads behind it as it read before. The listed package-level variables are as the program's text lays them (the card ties that). -/
import Derived.Test.YtamfcjmhnndbdaaGreatDoorZk00
import Derived.Test.YtamfcjmhnndbdaaGreatDoorZk18
import Derived.Test.YtamfcjmhnndbdaaGreatDoorZk21
import Derived.Test.YtamfcjmhnndbdaaGreatDoorRows
import Derived.ProofKit
import Derived.OpenShut
import Derived.ShutString
import Derived.ChangeOld
import Derived.LaidMore
import Derived.Stop.Joined
import Derived.SevenTiedAt
import Derived.Test.YtamfcjmhnndbdaaGreatDoorCards
import Derived.Test.YtamfcjmhnndbdaaGreatDoorTie
import Derived.Lay
open Go.Value renaming agg→lC,int→lg,slice→lh
open Go.IntKind renaming i64→lH,u32→lJ
open Go.Proofs.Tryz renaming prog→iG,underlying3→kQ
open Go renaming Value→iJ,TypeId→jg
namespace Go.Proofs.YtamfcjmhnndbdaaGreatDoor.wholeTyped
open Go.Proofs.YtamfcjmhnndbdaaGreatDoor
set_option linter.unusedVariables false
set_option linter.unusedSimpArgs false
set_option maxRecDepth 100000
set_option maxHeartbeats 8000000
section
open Go.ChangeShapes Go.WideShapes Go.ChangeAt Go.RowKit
open Go.ChangeMaps (open_string shut_string)
theorem own:ownKnob Tryz.prog.godebug=none:=lQ
theorem laidOut:laidOutB iG=true:=lQ
theorem lifted(os:Os)(E:os.Started)(H:Type)(enc:jg×iJ->H):
  ReturnsInHanded {} Tryz.checked os 6 .any (λw args=>(Rows.wholeTypedSpec.pre enc iG Tryz.f6 [] false w args/\laidMetH iG Rows.wholeTypedRow.laid w)/\sizedMet enc iG Tryz.f6 (OpenSpec.ofChange Rows.wholeTypedSpec) false w args)
   (Rows.wholeTypedSpec.post enc iG Tryz.f6 false true false false):=by
 refine returnsInHanded_of_change_and (C:=Tryz.checked) (X:=λw _=>laidMetH iG Rows.wholeTypedRow.laid w) (λ_ _ _ az h=>h.of_heap az) own E lQ Tryz.func6
  (ChangeSpec.witness_shaped (enc:=enc) (C:=Tryz.checked) (os:=os) (X:=λw _=>laidMetH iG Rows.wholeTypedRow.laid w) false (World.laidAll iG os Rows.wholeTypedRow.laid) #[lC #[lg lH 0,lg lJ 0,lg lH 0,lg lH 0,lg lH 0,lg lH 0],lh none 0 0,lh none 0 0] 8 (World.laidAll_os _ _ _) (World.shaped_of_ZipB lQ lQ) lQ lQ lQ (by rw[MakeChecks.laidMetH_plain _ _ _ lQ];exact laidMet_laidAll _ lQ lQ)) ?_
 intro W base args ds aQ Y A Z _ _ hL _;have hval:∀(j:Nat) t v,Tryz.f6.params[j]? =some t->args[j]? =some v->Value.okWide iG W .any base t v:=A;have aa:=Z;obtain⟨p,q,U,aA,rfl,aI,aJ⟩:=Z;have ae:DataW.TrodAll enc iG W 0 (λ_=>true) true Tryz.f6.params.toList args.toList ds p:=U;rw[Tryz.params6]at ae hval;obtain⟨v0,aK,aR,aL,p0,aS,ay,rfl,rfl,h0,r0⟩:=trodAll_cons ae;obtain⟨v1,aM,aT,aN,aB,aU,rfl,rfl,rfl,af,r1⟩:=trodAll_cons r0;obtain⟨v2,aO,aV,aP,aC,aW,rfl,rfl,rfl,ag,r2⟩:=trodAll_cons r1;obtain⟨rfl,rfl,rfl⟩:=trodAll_nil r2;obtain rfl:args=#[v0,v1,v2]:=by cases args;simp_all
 obtain⟨rfl,rfl⟩:=trodVars_none aA;obtain⟨c0,rfl,_⟩:∃cs,v0=lC cs/\True:=by
  have:=hval 0 24 v0 rfl rfl;simp only[Value.okWide,Tryz.underlying24]at this;obtain⟨cs,h,_⟩:=this;exact⟨cs,h,trivial⟩
 have ah:=h0;have ai:∀x∈p0,x.block<W.heap.size:=by obtain⟨m,J⟩:=ah;exact DataW.trod_lt m _ _ _ J
 obtain⟨a0,rfl,w0⟩:=Vv Tryz.underlying24 lQ lQ kQ Tryz.underlying22 kQ kQ kQ kQ h0;obtain⟨aj,N,O,rfl⟩:=okWide_slice Tryz.underlying25 (hval 1 25 v1 rfl rfl);have ak:=af;have au:∀x∈aB,x.block<W.heap.size:=by obtain⟨m,J⟩:=ak;exact DataW.trod_lt m _ _ _ J
 obtain⟨aD,w1⟩:∃aF,NL W aj N O aF:=Rp Tryz.underlying25 Tryz.underlying67 lQ lQ Tryz.underlying50 Tryz.underlying9 Tryz.underlying9 af;obtain⟨a2,Q,V,rfl⟩:=okWide_slice Tryz.underlying58 (hval 2 58 v2 rfl rfl);have av:=ag;have ax:∀x∈aC,x.block<W.heap.size:=by obtain⟨m,J⟩:=av;exact DataW.trod_lt m _ _ _ J
 obtain⟨aG,w2⟩:∃ss,IP W a2 Q ss:=by
  obtain⟨fuel,aH⟩:=ag;exact K8 Tryz.underlying58 Tryz.underlying9 lQ aH
 clear U A;refine(Lj a0 aj N O aD a2 Q V aG W w0 w1 w2 (VQ hL)).mono λe aX ⟨he,nV⟩=> ?_
 subst he;exact⟨_,rfl,_,_,_,[],_,[],aa,trodAll_mk1 (shut_bool Tryz.underlying4 _),(trodAll_cons_mk (Below.trod laidOut lQ (of_decide_eq_true lQ) ah nV ai) (trodAll_cons_mk (Below.trod laidOut lQ (of_decide_eq_true lQ) ak nV au) (trodAll_cons_mk (Below.trod laidOut lQ (of_decide_eq_true lQ) av nV ax) trodAll_mk0))),rfl,nV.frame _,λh=>by cases h⟩
theorem row:Rows.WholeTypedSaid:=
 OpenClaim.holds_of_wide 6 Tryz.f6 rfl rfl rfl rfl rfl rfl rfl ⟨rfl,rfl,rfl,rfl,rfl⟩ rfl rfl rfl rfl rfl lQ Tryz.func6 lQ
  (of_decide_eq_true lQ) (by unfold Func.isWrapper;first|(rw[if_pos wJ];kernel_rfl)|(rw[if_neg wJ];exact⟨rfl,rfl⟩))
  (λos A H enc _=>lifted os A H enc)
theorem proved : Rows.WholeTypedCardSaid :=
  Claim7.holds_tied_plain_at .later [] _ _ _ _ row (fun _ h => by cases h) (by kernel_rfl) (fun _ h => by cases h) wholeTyped_row_tie rfl ⟨rfl, rfl⟩ (by kernel_rfl) rfl
    (fun f fn hf hfn => by
      obtain rfl : f = 6 := Option.some.inj ((show Tryz.prog.funcNamed "hatchway/hatchwaytop.WholeTyped" = some 6 by kernel_rfl).symm.trans hf) |>.symm
      obtain rfl : fn = Tryz.f6 := (Option.some.inj (Tryz.func6.symm.trans hfn)).symm
      exact ⟨by kernel_rfl, fun j t ht => by
        rw [Tryz.params6] at ht
        have hm : t ∈ [24, 25, 58] := by simpa using Array.mem_of_getElem? ht
        have hall : ([24, 25, 58].all fun u => !Tryz.prog.wantsStandIn u) = true := by kernel_rfl
        exact (show Tryz.prog.wantsStandIn t = false by simpa using List.all_eq_true.1 hall t hm)⟩)
    (by kernel_rfl)
end
end Go.Proofs.YtamfcjmhnndbdaaGreatDoor.wholeTyped

