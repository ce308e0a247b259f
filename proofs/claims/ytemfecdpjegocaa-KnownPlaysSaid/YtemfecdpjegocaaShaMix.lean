/- The walk of sha.mix. -/
import Derived.Test.YtemfecdpjegocaaShaMixIn
import Derived.Deep.RegionHeld3
import Derived.Laws.EntriesVeiled
namespace Go.Proofs.Ytemfecdpjegocaa
open Go.RowKit Go.Shelf
set_option linter.unusedVariables false
set_option linter.unusedSimpArgs false
attribute [local go_sem] Oper.semAt_some

set_option maxRecDepth 100000 in
set_option maxHeartbeats 600000 in
theorem sha_mix (st : S8) (s : ByteArray) (w : World) (hs : s.size = 64) :
    Calls Try.prog 80 #[.agg st.cs, .string s] w fun e w' => e = .returned (.agg (mixN st s.data.toList).cs) ∧ Below w.heap.size w w' := by
  refine (callsIn_wide (n := 8)).1 ?_
  refine callsIn_of_wp_marks Try.func80 rfl trivial ?_ rfl
  simp only [Try.ntmps80, List.size_toArray, List.length_cons, List.length_nil, Nat.reduceAdd, Nat.reduceSub, Array.replicate_succ, Array.replicate_zero, List.push_toArray, List.append_toArray, List.nil_append, List.cons_append]
  refine wpIn_wide.2 ?_
  go_upto_region 1 with fail
  obtain ⟨b0, hb0⟩ : ∃ b, w.heap.size = b := ⟨_, rfl⟩
  refine wp_gen (fun W => Below b0 w W ∧ W.heap.size = b0 + 2 ∧ Blk W b0 st.cs 45 ∧ Blk W (b0 + 1) (Array.replicate 8 (.int .u32 0)) 45) ?_ ?_
  · refine ⟨((Below.refl _ _).alloc (by omega) _).alloc (by simp; omega) _, by simp [hb0], (hb0 ▸ Blk.new w _ _).alloc _, ?_⟩
    have := Blk.new (w.alloc (.cells st.cs 45)) (Array.replicate 8 (.int .u32 0)) 45
    rwa [World.size_alloc, hb0] at this
  rintro W ⟨hBW, hsz, hst, hres⟩
  have HSZ := Lib.hid hsz
  have HB0 := Lib.hid hb0
  clear hsz
  rw [hb0]
  clear hb0
  go_upto_region 2 with fail
  refine wp_gen (fun W2 => Below b0 w W2 ∧ W2.heap.size = b0 + 3 ∧ Blk W2 b0 st.cs 45 ∧ Blk W2 (b0 + 1) (Array.replicate 8 (.int .u32 0)) 45 ∧ Blk W2 (b0 + 2) #[.func (.func 93) #[] #[]] 161) ?_ ?_
  · have e := HSZ.out
    refine ⟨hBW.alloc (by omega) _, by simp [e], hst.alloc _, hres.alloc _, ?_⟩
    have := Blk.new W #[.func (.func 93) #[] #[]] 161
    rwa [e] at this
  rw [HSZ.out]
  clear HSZ hst hres hBW W
  rintro W ⟨hBW, hsz, hst, hres, hcl⟩
  refine wp_then_false ?_
  refine wp_region_held_drew (S := fun w' => Blk w' b0 st.cs 45) (by kernel_rfl) (Blk.drew hst) (fun hHeld => ?_)
  refine wpAnyH_take (i := 0) (oi := ?oi0) (v := ?v0) ?hi0 (by kernel_rfl) (by kernel_rfl) (by kernel_rfl) ?hQ0 (Or.inl ⟨?hw0, ?hy0⟩) hHeld ?rest0
  case hi0 => simp only [List.getElem?_toArray, List.getElem?_cons_succ, List.getElem?_cons_zero]; rfl
  case hQ0 => exact fun _ _ _ h => h
  case hw0 => rfl
  case hy0 => (intro w hSw; go_simp; try rfl)
  simp only [Act.put, List.setIfInBounds_toArray, List.set_cons_zero, List.set_cons_succ]
  refine wpAnyH_take (i := 1) (oi := ?oi1) (v := ?v1) ?hi1 (by kernel_rfl) (by kernel_rfl) (by kernel_rfl) ?hQ1 (Or.inl ⟨?hw1, ?hy1⟩) hHeld ?rest1
  case hi1 => simp only [List.getElem?_toArray, List.getElem?_cons_succ, List.getElem?_cons_zero]; rfl
  case hQ1 => exact fun _ _ _ h => h
  case hw1 => rfl
  case hy1 => (intro w hSw; have hc : w.cell? ⟨_, 0, none⟩ = some (.int .u32 (st.a.toNat : Int)) := hSw.cell 0; go_simp; try rfl)
  simp only [Act.put, List.setIfInBounds_toArray, List.set_cons_zero, List.set_cons_succ]
  refine wpAnyH_take (i := 2) (oi := ?oi2) (v := ?v2) ?hi2 (by kernel_rfl) (by kernel_rfl) (by kernel_rfl) ?hQ2 (Or.inl ⟨?hw2, ?hy2⟩) hHeld ?rest2
  case hi2 => simp only [List.getElem?_toArray, List.getElem?_cons_succ, List.getElem?_cons_zero]; rfl
  case hQ2 => exact fun _ _ _ h => h
  case hw2 => rfl
  case hy2 => (intro w hSw; go_simp; try rfl)
  simp only [Act.put, List.setIfInBounds_toArray, List.set_cons_zero, List.set_cons_succ]
  refine wpAnyH_take (i := 3) (oi := ?oi3) (v := ?v3) ?hi3 (by kernel_rfl) (by kernel_rfl) (by kernel_rfl) ?hQ3 (Or.inl ⟨?hw3, ?hy3⟩) hHeld ?rest3
  case hi3 => simp only [List.getElem?_toArray, List.getElem?_cons_succ, List.getElem?_cons_zero]; rfl
  case hQ3 => exact fun _ _ _ h => h
  case hw3 => rfl
  case hy3 => (intro w hSw; have hc : w.cell? ⟨_, 1, none⟩ = some (.int .u32 (st.b.toNat : Int)) := hSw.cell 1; go_simp; try rfl)
  simp only [Act.put, List.setIfInBounds_toArray, List.set_cons_zero, List.set_cons_succ]
  refine wpAnyH_take (i := 4) (oi := ?oi4) (v := ?v4) ?hi4 (by kernel_rfl) (by kernel_rfl) (by kernel_rfl) ?hQ4 (Or.inl ⟨?hw4, ?hy4⟩) hHeld ?rest4
  case hi4 => simp only [List.getElem?_toArray, List.getElem?_cons_succ, List.getElem?_cons_zero]; rfl
  case hQ4 => exact fun _ _ _ h => h
  case hw4 => rfl
  case hy4 => (intro w hSw; go_simp; try rfl)
  simp only [Act.put, List.setIfInBounds_toArray, List.set_cons_zero, List.set_cons_succ]
  refine wpAnyH_take (i := 5) (oi := ?oi5) (v := ?v5) ?hi5 (by kernel_rfl) (by kernel_rfl) (by kernel_rfl) ?hQ5 (Or.inl ⟨?hw5, ?hy5⟩) hHeld ?rest5
  case hi5 => simp only [List.getElem?_toArray, List.getElem?_cons_succ, List.getElem?_cons_zero]; rfl
  case hQ5 => exact fun _ _ _ h => h
  case hw5 => rfl
  case hy5 => (intro w hSw; have hc : w.cell? ⟨_, 2, none⟩ = some (.int .u32 (st.c.toNat : Int)) := hSw.cell 2; go_simp; try rfl)
  simp only [Act.put, List.setIfInBounds_toArray, List.set_cons_zero, List.set_cons_succ]
  refine wpAnyH_take (i := 6) (oi := ?oi6) (v := ?v6) ?hi6 (by kernel_rfl) (by kernel_rfl) (by kernel_rfl) ?hQ6 (Or.inl ⟨?hw6, ?hy6⟩) hHeld ?rest6
  case hi6 => simp only [List.getElem?_toArray, List.getElem?_cons_succ, List.getElem?_cons_zero]; rfl
  case hQ6 => exact fun _ _ _ h => h
  case hw6 => rfl
  case hy6 => (intro w hSw; go_simp; try rfl)
  simp only [Act.put, List.setIfInBounds_toArray, List.set_cons_zero, List.set_cons_succ]
  refine wpAnyH_take (i := 7) (oi := ?oi7) (v := ?v7) ?hi7 (by kernel_rfl) (by kernel_rfl) (by kernel_rfl) ?hQ7 (Or.inl ⟨?hw7, ?hy7⟩) hHeld ?rest7
  case hi7 => simp only [List.getElem?_toArray, List.getElem?_cons_succ, List.getElem?_cons_zero]; rfl
  case hQ7 => exact fun _ _ _ h => h
  case hw7 => rfl
  case hy7 => (intro w hSw; have hc : w.cell? ⟨_, 3, none⟩ = some (.int .u32 (st.d.toNat : Int)) := hSw.cell 3; go_simp; try rfl)
  simp only [Act.put, List.setIfInBounds_toArray, List.set_cons_zero, List.set_cons_succ]
  refine wpAnyH_take (i := 8) (oi := ?oi8) (v := ?v8) ?hi8 (by kernel_rfl) (by kernel_rfl) (by kernel_rfl) ?hQ8 (Or.inl ⟨?hw8, ?hy8⟩) hHeld ?rest8
  case hi8 => simp only [List.getElem?_toArray, List.getElem?_cons_succ, List.getElem?_cons_zero]; rfl
  case hQ8 => exact fun _ _ _ h => h
  case hw8 => rfl
  case hy8 => (intro w hSw; go_simp; try rfl)
  simp only [Act.put, List.setIfInBounds_toArray, List.set_cons_zero, List.set_cons_succ]
  refine wpAnyH_take (i := 9) (oi := ?oi9) (v := ?v9) ?hi9 (by kernel_rfl) (by kernel_rfl) (by kernel_rfl) ?hQ9 (Or.inl ⟨?hw9, ?hy9⟩) hHeld ?rest9
  case hi9 => simp only [List.getElem?_toArray, List.getElem?_cons_succ, List.getElem?_cons_zero]; rfl
  case hQ9 => exact fun _ _ _ h => h
  case hw9 => rfl
  case hy9 => (intro w hSw; have hc : w.cell? ⟨_, 4, none⟩ = some (.int .u32 (st.e.toNat : Int)) := hSw.cell 4; go_simp; try rfl)
  simp only [Act.put, List.setIfInBounds_toArray, List.set_cons_zero, List.set_cons_succ]
  refine wpAnyH_take (i := 10) (oi := ?oi10) (v := ?v10) ?hi10 (by kernel_rfl) (by kernel_rfl) (by kernel_rfl) ?hQ10 (Or.inl ⟨?hw10, ?hy10⟩) hHeld ?rest10
  case hi10 => simp only [List.getElem?_toArray, List.getElem?_cons_succ, List.getElem?_cons_zero]; rfl
  case hQ10 => exact fun _ _ _ h => h
  case hw10 => rfl
  case hy10 => (intro w hSw; go_simp; try rfl)
  simp only [Act.put, List.setIfInBounds_toArray, List.set_cons_zero, List.set_cons_succ]
  refine wpAnyH_take (i := 11) (oi := ?oi11) (v := ?v11) ?hi11 (by kernel_rfl) (by kernel_rfl) (by kernel_rfl) ?hQ11 (Or.inl ⟨?hw11, ?hy11⟩) hHeld ?rest11
  case hi11 => simp only [List.getElem?_toArray, List.getElem?_cons_succ, List.getElem?_cons_zero]; rfl
  case hQ11 => exact fun _ _ _ h => h
  case hw11 => rfl
  case hy11 => (intro w hSw; have hc : w.cell? ⟨_, 5, none⟩ = some (.int .u32 (st.f.toNat : Int)) := hSw.cell 5; go_simp; try rfl)
  simp only [Act.put, List.setIfInBounds_toArray, List.set_cons_zero, List.set_cons_succ]
  refine wpAnyH_take (i := 12) (oi := ?oi12) (v := ?v12) ?hi12 (by kernel_rfl) (by kernel_rfl) (by kernel_rfl) ?hQ12 (Or.inl ⟨?hw12, ?hy12⟩) hHeld ?rest12
  case hi12 => simp only [List.getElem?_toArray, List.getElem?_cons_succ, List.getElem?_cons_zero]; rfl
  case hQ12 => exact fun _ _ _ h => h
  case hw12 => rfl
  case hy12 => (intro w hSw; go_simp; try rfl)
  simp only [Act.put, List.setIfInBounds_toArray, List.set_cons_zero, List.set_cons_succ]
  refine wpAnyH_take (i := 13) (oi := ?oi13) (v := ?v13) ?hi13 (by kernel_rfl) (by kernel_rfl) (by kernel_rfl) ?hQ13 (Or.inl ⟨?hw13, ?hy13⟩) hHeld ?rest13
  case hi13 => simp only [List.getElem?_toArray, List.getElem?_cons_succ, List.getElem?_cons_zero]; rfl
  case hQ13 => exact fun _ _ _ h => h
  case hw13 => rfl
  case hy13 => (intro w hSw; have hc : w.cell? ⟨_, 6, none⟩ = some (.int .u32 (st.g.toNat : Int)) := hSw.cell 6; go_simp; try rfl)
  simp only [Act.put, List.setIfInBounds_toArray, List.set_cons_zero, List.set_cons_succ]
  refine wpAnyH_take (i := 14) (oi := ?oi14) (v := ?v14) ?hi14 (by kernel_rfl) (by kernel_rfl) (by kernel_rfl) ?hQ14 (Or.inl ⟨?hw14, ?hy14⟩) hHeld ?rest14
  case hi14 => simp only [List.getElem?_toArray, List.getElem?_cons_succ, List.getElem?_cons_zero]; rfl
  case hQ14 => exact fun _ _ _ h => h
  case hw14 => rfl
  case hy14 => (intro w hSw; go_simp; try rfl)
  simp only [Act.put, List.setIfInBounds_toArray, List.set_cons_zero, List.set_cons_succ]
  refine wpAnyH_take (i := 15) (oi := ?oi15) (v := ?v15) ?hi15 (by kernel_rfl) (by kernel_rfl) (by kernel_rfl) ?hQ15 (Or.inl ⟨?hw15, ?hy15⟩) hHeld ?rest15
  case hi15 => simp only [List.getElem?_toArray, List.getElem?_cons_succ, List.getElem?_cons_zero]; rfl
  case hQ15 => exact fun _ _ _ h => h
  case hw15 => rfl
  case hy15 => (intro w hSw; have hc : w.cell? ⟨_, 7, none⟩ = some (.int .u32 (st.h.toNat : Int)) := hSw.cell 7; go_simp; try rfl)
  simp only [Act.put, List.setIfInBounds_toArray, List.set_cons_zero, List.set_cons_succ]
  refine anyH_allocs (P := Try.prog) (T := 43) (z := .int .u32 0) (H := b0 + 3) (fuel := 8) (w0 := W.drew) [(16, 6), (17, 7), (18, 8), (19, 9), (20, 10), (21, 11), (22, 12), (23, 13)] (by decide) (Nat.le_of_eq hsz.symm)
    (opAllocB_spec (by kernel_rfl) (fun ρ dst typ pos after w => alloc_u32 ρ dst typ pos after w)) (waitB_spec (by kernel_rfl)) (fun w' h => h.alloc _) ?_ 8 (fun _ => none) _ rfl hHeld ⟨Below.refl _ _, (fun p hp b hb => by cases hb), (fun p hp q hq b hb => by cases hb)⟩
  intro bs W0 hS2 hM
  simp only [foldF, setB, putB, Act.put, List.setIfInBounds_toArray, List.set_cons_zero, List.set_cons_succ]
  have hsS : MixS b0 bs := by
    refine ⟨fun i j hi hj e => ?_, fun j hj => (hM.blk (16 + j, 6 + j) (pairs_mem j hj) _ rfl).1⟩
    have := hM.inj (16 + i, 6 + i) (pairs_mem i hi) (16 + j, 6 + j) (pairs_mem j hj) (bs (16 + j)) (by rw [← e]) rfl
    omega
  have hI : MixI b0 bs st.cs w (fun _ => 0) W0 := by
    have hB3 := hM.below
    refine ⟨hBW.trans ?_, hS2, Below.blk hB3 hres (by omega), Below.blk hB3 hcl (by omega), fun j hj => (hM.blk (16 + j, 6 + j) (pairs_mem j hj) _ rfl).2⟩
    exact ((Below.refl b0 W).drew).trans (hB3.mono (by omega))
  clear hM hS2 hHeld hst hres hcl hBW hsz W
  refine wpAnyH_ready (rs := [24]) (by kernel_rfl) (by simp) ?_
  refine AllReadyH.cons (o := ?oi24) ?hi24 (fun K hK => ?_) AllReadyH.nil
  case hi24 => simp only [List.getElem?_toArray, List.getElem?_cons_succ, List.getElem?_cons_zero]; rfl
  have hv := hI.v 0 (by decide)
  have hc : W0.cell? ⟨bs 16, 0, none⟩ = some (.int .u32 _) := hv.cell 0
  have hf : W0.frozen? ⟨bs 16, 0, none⟩ = false := hv.free 0
  clear hv
  have hh := Lib.hid hI
  clear hI
  go_simp
  have hI := hh.out.set hsS 0 (by decide) st.a.toNat
  clear hh
  refine hK.out _ _ hI.st (fun hx => ?_)
  clear hK K hc hf
  try simp only [Act.put, List.setIfInBounds_toArray, List.set_cons_zero, List.set_cons_succ]
  refine anyH_gen _ hI ?_
  clear hI hx W0
  intro W1 hI
  refine wpAnyH_ready (rs := [25]) (by kernel_rfl) (by simp) ?_
  refine AllReadyH.cons (o := ?oi25) ?hi25 (fun K hK => ?_) AllReadyH.nil
  case hi25 => simp only [List.getElem?_toArray, List.getElem?_cons_succ, List.getElem?_cons_zero]; rfl
  have hv := hI.v 1 (by decide)
  have hc : W1.cell? ⟨bs 17, 0, none⟩ = some (.int .u32 _) := hv.cell 0
  have hf : W1.frozen? ⟨bs 17, 0, none⟩ = false := hv.free 0
  clear hv
  have hh := Lib.hid hI
  clear hI
  go_simp
  have hI := hh.out.set hsS 1 (by decide) st.b.toNat
  clear hh
  refine hK.out _ _ hI.st (fun hx => ?_)
  clear hK K hc hf
  try simp only [Act.put, List.setIfInBounds_toArray, List.set_cons_zero, List.set_cons_succ]
  refine anyH_gen _ hI ?_
  clear hI hx W1
  intro W2 hI
  refine wpAnyH_ready (rs := [26]) (by kernel_rfl) (by simp) ?_
  refine AllReadyH.cons (o := ?oi26) ?hi26 (fun K hK => ?_) AllReadyH.nil
  case hi26 => simp only [List.getElem?_toArray, List.getElem?_cons_succ, List.getElem?_cons_zero]; rfl
  have hv := hI.v 2 (by decide)
  have hc : W2.cell? ⟨bs 18, 0, none⟩ = some (.int .u32 _) := hv.cell 0
  have hf : W2.frozen? ⟨bs 18, 0, none⟩ = false := hv.free 0
  clear hv
  have hh := Lib.hid hI
  clear hI
  go_simp
  have hI := hh.out.set hsS 2 (by decide) st.c.toNat
  clear hh
  refine hK.out _ _ hI.st (fun hx => ?_)
  clear hK K hc hf
  try simp only [Act.put, List.setIfInBounds_toArray, List.set_cons_zero, List.set_cons_succ]
  refine anyH_gen _ hI ?_
  clear hI hx W2
  intro W3 hI
  refine wpAnyH_ready (rs := [27]) (by kernel_rfl) (by simp) ?_
  refine AllReadyH.cons (o := ?oi27) ?hi27 (fun K hK => ?_) AllReadyH.nil
  case hi27 => simp only [List.getElem?_toArray, List.getElem?_cons_succ, List.getElem?_cons_zero]; rfl
  have hv := hI.v 3 (by decide)
  have hc : W3.cell? ⟨bs 19, 0, none⟩ = some (.int .u32 _) := hv.cell 0
  have hf : W3.frozen? ⟨bs 19, 0, none⟩ = false := hv.free 0
  clear hv
  have hh := Lib.hid hI
  clear hI
  go_simp
  have hI := hh.out.set hsS 3 (by decide) st.d.toNat
  clear hh
  refine hK.out _ _ hI.st (fun hx => ?_)
  clear hK K hc hf
  try simp only [Act.put, List.setIfInBounds_toArray, List.set_cons_zero, List.set_cons_succ]
  refine anyH_gen _ hI ?_
  clear hI hx W3
  intro W4 hI
  refine wpAnyH_ready (rs := [28]) (by kernel_rfl) (by simp) ?_
  refine AllReadyH.cons (o := ?oi28) ?hi28 (fun K hK => ?_) AllReadyH.nil
  case hi28 => simp only [List.getElem?_toArray, List.getElem?_cons_succ, List.getElem?_cons_zero]; rfl
  have hv := hI.v 4 (by decide)
  have hc : W4.cell? ⟨bs 20, 0, none⟩ = some (.int .u32 _) := hv.cell 0
  have hf : W4.frozen? ⟨bs 20, 0, none⟩ = false := hv.free 0
  clear hv
  have hh := Lib.hid hI
  clear hI
  go_simp
  have hI := hh.out.set hsS 4 (by decide) st.e.toNat
  clear hh
  refine hK.out _ _ hI.st (fun hx => ?_)
  clear hK K hc hf
  try simp only [Act.put, List.setIfInBounds_toArray, List.set_cons_zero, List.set_cons_succ]
  refine anyH_gen _ hI ?_
  clear hI hx W4
  intro W5 hI
  refine wpAnyH_ready (rs := [29]) (by kernel_rfl) (by simp) ?_
  refine AllReadyH.cons (o := ?oi29) ?hi29 (fun K hK => ?_) AllReadyH.nil
  case hi29 => simp only [List.getElem?_toArray, List.getElem?_cons_succ, List.getElem?_cons_zero]; rfl
  have hv := hI.v 5 (by decide)
  have hc : W5.cell? ⟨bs 21, 0, none⟩ = some (.int .u32 _) := hv.cell 0
  have hf : W5.frozen? ⟨bs 21, 0, none⟩ = false := hv.free 0
  clear hv
  have hh := Lib.hid hI
  clear hI
  go_simp
  have hI := hh.out.set hsS 5 (by decide) st.f.toNat
  clear hh
  refine hK.out _ _ hI.st (fun hx => ?_)
  clear hK K hc hf
  try simp only [Act.put, List.setIfInBounds_toArray, List.set_cons_zero, List.set_cons_succ]
  refine anyH_gen _ hI ?_
  clear hI hx W5
  intro W6 hI
  refine wpAnyH_ready (rs := [30]) (by kernel_rfl) (by simp) ?_
  refine AllReadyH.cons (o := ?oi30) ?hi30 (fun K hK => ?_) AllReadyH.nil
  case hi30 => simp only [List.getElem?_toArray, List.getElem?_cons_succ, List.getElem?_cons_zero]; rfl
  have hv := hI.v 6 (by decide)
  have hc : W6.cell? ⟨bs 22, 0, none⟩ = some (.int .u32 _) := hv.cell 0
  have hf : W6.frozen? ⟨bs 22, 0, none⟩ = false := hv.free 0
  clear hv
  have hh := Lib.hid hI
  clear hI
  go_simp
  have hI := hh.out.set hsS 6 (by decide) st.g.toNat
  clear hh
  refine hK.out _ _ hI.st (fun hx => ?_)
  clear hK K hc hf
  try simp only [Act.put, List.setIfInBounds_toArray, List.set_cons_zero, List.set_cons_succ]
  refine anyH_gen _ hI ?_
  clear hI hx W6
  intro W7 hI
  refine wpAnyH_ready (rs := [31]) (by kernel_rfl) (by simp) ?_
  refine AllReadyH.cons (o := ?oi31) ?hi31 (fun K hK => ?_) AllReadyH.nil
  case hi31 => simp only [List.getElem?_toArray, List.getElem?_cons_succ, List.getElem?_cons_zero]; rfl
  have hv := hI.v 7 (by decide)
  have hc : W7.cell? ⟨bs 23, 0, none⟩ = some (.int .u32 _) := hv.cell 0
  have hf : W7.frozen? ⟨bs 23, 0, none⟩ = false := hv.free 0
  clear hv
  have hh := Lib.hid hI
  clear hI
  go_simp
  have hI := hh.out.set hsS 7 (by decide) st.h.toNat
  clear hh
  refine hK.out _ _ hI.st (fun hx => ?_)
  clear hK K hc hf
  try simp only [Act.put, List.setIfInBounds_toArray, List.set_cons_zero, List.set_cons_succ]
  refine anyH_gen _ hI ?_
  clear hI hx W7
  intro W8 hI
  refine wpAnyH_done (by kernel_rfl) ?_ _
  have hI : MixI b0 bs st.cs w st.at_ W8 := hI.congr (fun j hj => by match j, hj with | 0, _ => rfl | 1, _ => rfl | 2, _ => rfl | 3, _ => rfl | 4, _ => rfl | 5, _ => rfl | 6, _ => rfl | 7, _ => rfl)
  have HI := Lib.hid hI
  clear hI
  go_wp2_with fail
  refine (sha_spread s _).mono ?_
  rintro e W9 ⟨Bs, rfl, hge, hb9, hBs⟩
  obtain ⟨E, hE⟩ : ∃ E, W8.heap.size = E := ⟨_, rfl⟩
  rw [hE] at hge hb9
  have hlt := fun j hj => ((HI.out.v j hj).lt)
  rw [hE] at hlt
  have hI9 : MixI b0 bs st.cs w st.at_ W9 := HI.out.grown (E := E) hlt (by have := HI.out.cl.lt; omega) (row := none) ⟨hb9.os, hb9.tape, hb9.output, by have := hb9.size; omega, fun i hi _ => hb9.block i (by omega)⟩ (fun r h => by cases h)
  have hE0 : b0 + 2 < E := by have := HI.out.cl.lt; omega
  clear HI
  unfold seqF
  go_wp2_with fail
  have hseq := seq_spread 7 Bs E s W9 hs hge hBs
  have hmix : mixN st s.data.toList = addS st (roundsN s.data.toList st 64) := rfl
  have hR0 : roundsN s.data.toList st 0 = st := rfl
  have hRn : ∀ k, roundsN s.data.toList st (k + 1) = stepS (roundsN s.data.toList st k) (kN k) (wS s.data.toList k) := fun _ => rfl
  have hE9 : E ≤ W9.heap.size := by have := hb9.size; omega
  clear hBs hI hb9
  generalize roundsN s.data.toList st = R at *
  generalize wS s.data.toList = wv at *
  have hI9 := hI9.congr (y := (R 0).at_) (fun j _ => by rw [hR0])
  clear hR0
  have HM := Lib.hid hmix
  have HR := Lib.hid hRn
  clear hmix hRn
  refine wpIn_wide.1 (wpIn_range_cells (n := 8) (E := E) (N := 64) (encs := encW wv) (w0 := W9) rfl (by decide) (gf := 109) (lb := #[.pointer (some ⟨Bs, 0, none⟩)]) rfl trivial ?eg hseq (Below.refl _ _) (fun k => rfl) (fun k W => MixI b0 bs st.cs w (R k).at_ W) ?hI hI9 ?hround ?hdone)
  case eg => intro args w'; rfl
  case hI => exact fun k W W' row hk hg hr => hk.grown (E := E) hlt hE0 hg (fun r e => by have := hr r e; omega)
  case hround =>
    intro l k W hk hI
    simp only [encW, List.zip_toArray, List.zip_cons_cons, List.zip_nil_right, List.foldl_toArray, List.foldl_cons, List.foldl_nil, List.setIfInBounds_toArray, List.set_cons_zero, List.set_cons_succ]
    gi_wp2
    refine ⟨trivial, fun W2 hI2 => ?_⟩
    have hwv := HR.out k
    generalize wv k = wk at *
    obtain ⟨Rk, hRk⟩ : ∃ x, R k = x := ⟨_, rfl⟩
    rw [hRk] at hwv
    have hI2 : MixI b0 bs st.cs w Rk.at_ W2 := hI2.congr (fun j _ => by rw [hRk])
    clear hRk
    obtain ⟨a, b, c, d, e, f, g, h⟩ := Rk
    have c0 : W2.cell? ⟨bs 16, 0, none⟩ = some (.int .u32 (a.toNat : Int)) := (hI2.v 0 (by decide)).cell 0
    have c1 : W2.cell? ⟨bs 17, 0, none⟩ = some (.int .u32 (b.toNat : Int)) := (hI2.v 1 (by decide)).cell 0
    have c2 : W2.cell? ⟨bs 18, 0, none⟩ = some (.int .u32 (c.toNat : Int)) := (hI2.v 2 (by decide)).cell 0
    have c3 : W2.cell? ⟨bs 19, 0, none⟩ = some (.int .u32 (d.toNat : Int)) := (hI2.v 3 (by decide)).cell 0
    have c4 : W2.cell? ⟨bs 20, 0, none⟩ = some (.int .u32 (e.toNat : Int)) := (hI2.v 4 (by decide)).cell 0
    have c5 : W2.cell? ⟨bs 21, 0, none⟩ = some (.int .u32 (f.toNat : Int)) := (hI2.v 5 (by decide)).cell 0
    have c6 : W2.cell? ⟨bs 22, 0, none⟩ = some (.int .u32 (g.toNat : Int)) := (hI2.v 6 (by decide)).cell 0
    have c7 : W2.cell? ⟨bs 23, 0, none⟩ = some (.int .u32 (h.toNat : Int)) := (hI2.v 7 (by decide)).cell 0
    have cc : W2.cell? ⟨b0 + 2, 0, none⟩ = some (.func (.func 93) #[] #[]) := hI2.cl.cell 0
    have HI2 := Lib.hid hI2
    have HWV := Lib.hid hwv
    have HLT := Lib.hid hlt
    clear hI2 hwv hI hseq hI9 hlt
    gi_upto_region 8 with (refine ⟨trivial, ?_⟩; skip)
    simp only [L_and, L_not, L_xor]
    have HCH : (e &&& f) ^^^ (~~~ e &&& g) = (e &&& f) ^^^ (~~~ e &&& g) := rfl
    have HVO : (a &&& b) ^^^ (a &&& c) ^^^ (b &&& c) = (a &&& b) ^^^ (a &&& c) ^^^ (b &&& c) := rfl
    generalize hch : (e &&& f) ^^^ (~~~ e &&& g) = ch
    generalize hvo : (a &&& b) ^^^ (a &&& c) ^^^ (b &&& c) = vo
    have hch := Lib.hid hch
    have hvo := Lib.hid hvo
    clear HCH HVO
    refine wpR_region_quiet l (by kernel_rfl) (by kernel_rfl) (by kernel_rfl) ?hL ?_
    case hL => rintro ⟨a', w', hq⟩; exact absurd hq.1 (fun e => by cases e)
    repeat (go_big_quiet_step (first
      | (go_at_call 96; exact Calls.quiet_eq (bigmix_int _ _ _ _ _ (by decide) (by decide) (by decide)))
      | (go_at_call 93; exact Calls.quiet_of (sha_const _ _ hk))))
    refine wpQuiet_nil ?_
    intro nk
    gi_upto_region 9 with (refine ⟨trivial, ?_⟩; skip)
    have hP : ((((h.toNat : Int) + ((bigM e 6 11 25).toNat : Int) + ((kN k).toNat : Int) + (wk.toNat : Int)) % 4294967296 + (ch.toNat : Int)) % 4294967296) = ((stepP ⟨a, b, c, d, e, f, g, h⟩ (kN k) wk).toNat : Int) := by
      unfold stepP
      simp only
      rw [hch.out, ← L_add, ← L_add, ← L_add, ← L_add]; omega
    rw [hP]
    generalize hpp : stepP ⟨a, b, c, d, e, f, g, h⟩ (kN k) wk = P
    have hpp := Lib.hid hpp
    clear hP
    gi_upto_region 10 with (refine ⟨trivial, CallsIn.mono (CallsIn.inRound l (callsIn_wide.2 (bigmix_int a 2 13 22 _ (by decide) (by decide) (by decide)))) ?_⟩; rintro en w' ⟨rfl, rfl⟩)
    have hQ : ((((bigM a 2 13 22).toNat : Int) + (vo.toNat : Int)) % 4294967296) = ((stepQ ⟨a, b, c, d, e, f, g, h⟩).toNat : Int) := by
      unfold stepQ
      simp only
      rw [hvo.out, ← L_add]
    rw [hQ]
    generalize hqq : stepQ ⟨a, b, c, d, e, f, g, h⟩ = Qv
    have hqq := Lib.hid hqq
    clear hQ
    have HJ0 := Lib.hid (HI2.out.drewN nk)
    have HK0 : KeepsFrom E W2 (W2.drewN nk) ∧ KpC E W2 (W2.drewN nk) := ⟨KeepsFrom.of_grownBy (row := none) ⟨rfl, rfl, rfl, Nat.le_refl _, fun _ _ _ => rfl⟩ (fun _ h => by cases h), KpC.refl _ _⟩
    have f0 : W2.frozen? ⟨bs 16, 0, none⟩ = false := (HI2.out.v 0 (by decide)).free 0
    have f1 : W2.frozen? ⟨bs 17, 0, none⟩ = false := (HI2.out.v 1 (by decide)).free 0
    repeat (first | gi_guarded | gi_step | gi_upon)
    generalize hY0 : W2.drewN nk = Y0 at HJ0 HK0 ⊢
    have hJ1 := HJ0.out.set hsS 0 (by decide) (((P.toNat : Int) + (Qv.toNat : Int)) % 4294967296)
    have HK1 := keeps_set (E := E) HK0 (b := bs 16) (HLT.out 0 (by decide)) (.int .u32 (((P.toNat : Int) + (Qv.toNat : Int)) % 4294967296))
    generalize hY1 : Y0.setCell ⟨bs 16, 0, none⟩ (.int .u32 (((P.toNat : Int) + (Qv.toNat : Int)) % 4294967296)) = Y1 at HK1 ⊢
    have hJ1 : MixI b0 bs st.cs w _ Y1 := hY1 ▸ hJ1
    have k1 : Y1.cell? ⟨bs 17, 0, none⟩ = some (.int .u32 _) := (hJ1.v 1 (by decide)).cell 0
    have f2 : Y1.frozen? ⟨bs 18, 0, none⟩ = false := (hJ1.v 2 (by decide)).free 0
    have HJ1 := Lib.hid hJ1
    clear hJ1
    go_simp
    repeat (first | gi_guarded | gi_step | gi_upon)
    have hJ2 := HJ1.out.set hsS 1 (by decide) (a.toNat : Int)
    have HK2 := keeps_set (E := E) HK1 (b := bs 17) (HLT.out 1 (by decide)) (.int .u32 (a.toNat : Int))
    generalize hY2 : Y1.setCell ⟨bs 17, 0, none⟩ (.int .u32 (a.toNat : Int)) = Y2 at HK2 ⊢
    have hJ2 : MixI b0 bs st.cs w _ Y2 := hY2 ▸ hJ2
    have k2 : Y2.cell? ⟨bs 18, 0, none⟩ = some (.int .u32 _) := (hJ2.v 2 (by decide)).cell 0
    have f3 : Y2.frozen? ⟨bs 19, 0, none⟩ = false := (hJ2.v 3 (by decide)).free 0
    have HJ2 := Lib.hid hJ2
    clear hJ2
    go_simp
    repeat (first | gi_guarded | gi_step | gi_upon)
    have hJ3 := HJ2.out.set hsS 2 (by decide) (b.toNat : Int)
    have HK3 := keeps_set (E := E) HK2 (b := bs 18) (HLT.out 2 (by decide)) (.int .u32 (b.toNat : Int))
    generalize hY3 : Y2.setCell ⟨bs 18, 0, none⟩ (.int .u32 (b.toNat : Int)) = Y3 at HK3 ⊢
    have hJ3 : MixI b0 bs st.cs w _ Y3 := hY3 ▸ hJ3
    have k3 : Y3.cell? ⟨bs 19, 0, none⟩ = some (.int .u32 _) := (hJ3.v 3 (by decide)).cell 0
    have f4 : Y3.frozen? ⟨bs 20, 0, none⟩ = false := (hJ3.v 4 (by decide)).free 0
    have HJ3 := Lib.hid hJ3
    clear hJ3
    go_simp
    repeat (first | gi_guarded | gi_step | gi_upon)
    have hJ4 := HJ3.out.set hsS 3 (by decide) (c.toNat : Int)
    have HK4 := keeps_set (E := E) HK3 (b := bs 19) (HLT.out 3 (by decide)) (.int .u32 (c.toNat : Int))
    generalize hY4 : Y3.setCell ⟨bs 19, 0, none⟩ (.int .u32 (c.toNat : Int)) = Y4 at HK4 ⊢
    have hJ4 : MixI b0 bs st.cs w _ Y4 := hY4 ▸ hJ4
    have k4 : Y4.cell? ⟨bs 20, 0, none⟩ = some (.int .u32 _) := (hJ4.v 4 (by decide)).cell 0
    have f5 : Y4.frozen? ⟨bs 21, 0, none⟩ = false := (hJ4.v 5 (by decide)).free 0
    have HJ4 := Lib.hid hJ4
    clear hJ4
    go_simp
    repeat (first | gi_guarded | gi_step | gi_upon)
    have hJ5 := HJ4.out.set hsS 4 (by decide) (((d.toNat : Int) + (P.toNat : Int)) % 4294967296)
    have HK5 := keeps_set (E := E) HK4 (b := bs 20) (HLT.out 4 (by decide)) (.int .u32 (((d.toNat : Int) + (P.toNat : Int)) % 4294967296))
    generalize hY5 : Y4.setCell ⟨bs 20, 0, none⟩ (.int .u32 (((d.toNat : Int) + (P.toNat : Int)) % 4294967296)) = Y5 at HK5 ⊢
    have hJ5 : MixI b0 bs st.cs w _ Y5 := hY5 ▸ hJ5
    have k5 : Y5.cell? ⟨bs 21, 0, none⟩ = some (.int .u32 _) := (hJ5.v 5 (by decide)).cell 0
    have f6 : Y5.frozen? ⟨bs 22, 0, none⟩ = false := (hJ5.v 6 (by decide)).free 0
    have HJ5 := Lib.hid hJ5
    clear hJ5
    go_simp
    repeat (first | gi_guarded | gi_step | gi_upon)
    have hJ6 := HJ5.out.set hsS 5 (by decide) (e.toNat : Int)
    have HK6 := keeps_set (E := E) HK5 (b := bs 21) (HLT.out 5 (by decide)) (.int .u32 (e.toNat : Int))
    generalize hY6 : Y5.setCell ⟨bs 21, 0, none⟩ (.int .u32 (e.toNat : Int)) = Y6 at HK6 ⊢
    have hJ6 : MixI b0 bs st.cs w _ Y6 := hY6 ▸ hJ6
    have k6 : Y6.cell? ⟨bs 22, 0, none⟩ = some (.int .u32 _) := (hJ6.v 6 (by decide)).cell 0
    have f7 : Y6.frozen? ⟨bs 23, 0, none⟩ = false := (hJ6.v 7 (by decide)).free 0
    have HJ6 := Lib.hid hJ6
    clear hJ6
    go_simp
    repeat (first | gi_guarded | gi_step | gi_upon)
    have hJ7 := HJ6.out.set hsS 6 (by decide) (f.toNat : Int)
    have HK7 := keeps_set (E := E) HK6 (b := bs 22) (HLT.out 6 (by decide)) (.int .u32 (f.toNat : Int))
    generalize hY7 : Y6.setCell ⟨bs 22, 0, none⟩ (.int .u32 (f.toNat : Int)) = Y7 at HK7 ⊢
    have hJ7 : MixI b0 bs st.cs w _ Y7 := hY7 ▸ hJ7
    have k7 : Y7.cell? ⟨bs 23, 0, none⟩ = some (.int .u32 _) := (hJ7.v 7 (by decide)).cell 0
    have HJ7 := Lib.hid hJ7
    clear hJ7
    go_simp
    repeat (first | gi_guarded | gi_step | gi_upon)
    have hJ8 := HJ7.out.set hsS 7 (by decide) (g.toNat : Int)
    have HK8 := keeps_set (E := E) HK7 (b := bs 23) (HLT.out 7 (by decide)) (.int .u32 (g.toNat : Int))
    generalize hY8 : Y7.setCell ⟨bs 23, 0, none⟩ (.int .u32 (g.toNat : Int)) = Y8 at HK8 ⊢
    have hJ8 : MixI b0 bs st.cs w _ Y8 := hY8 ▸ hJ8
    have HJ8 := Lib.hid hJ8
    clear hJ8
    refine ⟨rfl, ⟨HK8.1.size, fun i o hi => HK8.1.same i o (Nat.le_trans hE9 hi)⟩, HK8.2, HJ8.out.congr (fun j hj => ?_)⟩
    rw [HWV.out]
    unfold stepS
    rw [hpp.out, hqq.out]
    match j, hj with
    | 0, _ => exact L_add P Qv
    | 1, _ => rfl
    | 2, _ => rfl
    | 3, _ => rfl
    | 4, _ => exact L_add d P
    | 5, _ => rfl
    | 6, _ => rfl
    | 7, _ => rfl
  case hdone =>
    intro D W hD hI hW
    obtain ⟨T, hT⟩ : ∃ x, R 64 = x := ⟨_, rfl⟩
    have hI : MixI b0 bs st.cs w T.at_ W := hI.congr (fun j _ => by rw [hT])
    have hm := HM.out
    rw [hT] at hm
    have c0 : W.cell? ⟨bs 16, 0, none⟩ = some (.int .u32 (T.a.toNat : Int)) := (hI.v 0 (by decide)).cell 0
    have c1 : W.cell? ⟨bs 17, 0, none⟩ = some (.int .u32 (T.b.toNat : Int)) := (hI.v 1 (by decide)).cell 0
    have c2 : W.cell? ⟨bs 18, 0, none⟩ = some (.int .u32 (T.c.toNat : Int)) := (hI.v 2 (by decide)).cell 0
    have c3 : W.cell? ⟨bs 19, 0, none⟩ = some (.int .u32 (T.d.toNat : Int)) := (hI.v 3 (by decide)).cell 0
    have c4 : W.cell? ⟨bs 20, 0, none⟩ = some (.int .u32 (T.e.toNat : Int)) := (hI.v 4 (by decide)).cell 0
    have c5 : W.cell? ⟨bs 21, 0, none⟩ = some (.int .u32 (T.f.toNat : Int)) := (hI.v 5 (by decide)).cell 0
    have c6 : W.cell? ⟨bs 22, 0, none⟩ = some (.int .u32 (T.g.toNat : Int)) := (hI.v 6 (by decide)).cell 0
    have c7 : W.cell? ⟨bs 23, 0, none⟩ = some (.int .u32 (T.h.toNat : Int)) := (hI.v 7 (by decide)).cell 0
    have HI := Lib.hid hI
    have HWD := Lib.hid hW
    have HMM := Lib.hid hm
    clear hI hW hm hT HM HR hseq hI9 hlt
    go_wp2_with fail
    go_loopw [98] (fun i wr => ∃ k : Nat, k ≤ 8 ∧ i = .int .i64 k ∧ Below b0 w wr ∧ Blk wr b0 (sumC st T k) 45 ∧ Blk wr (b0 + 1) (Array.replicate 8 (.int .u32 0)) 45 ∧ wr.heap[D]? = some (.deferred (some []))) (fun i _ => 8 - (intOf i).toNat)
    case atStart => exact ⟨0, by omega, rfl, HI.out.below, HI.out.st, HI.out.res, HWD.out⟩
    case round =>
      obtain ⟨k, hk, rfl, hB, hst, hres, hd⟩ := hrel
      have HB := Lib.hid hB
      have HD := Lib.hid hd
      clear hB hd
      have hk8 : k = 0 ∨ k = 1 ∨ k = 2 ∨ k = 3 ∨ k = 4 ∨ k = 5 ∨ k = 6 ∨ k = 7 ∨ k = 8 := by omega
      rcases hk8 with rfl | rfl | rfl | rfl | rfl | rfl | rfl | rfl | rfl
      · have c : wr.cell? ⟨b0, 0, none⟩ = some (.int .u32 (st.a.toNat : Int)) := hst.cell 0
        have f : wr.frozen? ⟨b0, 0, none⟩ = false := hst.free 0
        have hx : ∀ w', (Instr.index 45 (.agg #[.int .u32 (T.a.toNat : Int), .int .u32 (T.b.toNat : Int), .int .u32 (T.c.toNat : Int), .int .u32 (T.d.toNat : Int), .int .u32 (T.e.toNat : Int), .int .u32 (T.f.toNat : Int), .int .u32 (T.g.toNat : Int), .int .u32 (T.h.toNat : Int)]) (.int .i64 0)).run Try.prog w' = .ok (.int .u32 (T.a.toNat : Int)) w' := fun _ => rfl
        have HS := Lib.hid hst
        have HRS := Lib.hid hres
        clear hst hres
        go_wp2_with fail
        rw [L_add]
        go_roundw
        case rel => exact ⟨1, by omega, by go_num, HB.out.setCell (Nat.le_refl _) _, HS.out.set 0 _, HRS.out.setOther (by simp) _, (Below.heap_setCell _ _ _ _ (by simp; omega)).trans HD.out⟩
        case measure => simp [intOf]
      · have c : wr.cell? ⟨b0, 1, none⟩ = some (.int .u32 (st.b.toNat : Int)) := hst.cell 1
        have f : wr.frozen? ⟨b0, 1, none⟩ = false := hst.free 1
        have hx : ∀ w', (Instr.index 45 (.agg #[.int .u32 (T.a.toNat : Int), .int .u32 (T.b.toNat : Int), .int .u32 (T.c.toNat : Int), .int .u32 (T.d.toNat : Int), .int .u32 (T.e.toNat : Int), .int .u32 (T.f.toNat : Int), .int .u32 (T.g.toNat : Int), .int .u32 (T.h.toNat : Int)]) (.int .i64 1)).run Try.prog w' = .ok (.int .u32 (T.b.toNat : Int)) w' := fun _ => rfl
        have HS := Lib.hid hst
        have HRS := Lib.hid hres
        clear hst hres
        go_wp2_with fail
        rw [L_add]
        go_roundw
        case rel => exact ⟨2, by omega, by go_num, HB.out.setCell (Nat.le_refl _) _, HS.out.set 1 _, HRS.out.setOther (by simp) _, (Below.heap_setCell _ _ _ _ (by simp; omega)).trans HD.out⟩
        case measure => simp [intOf]
      · have c : wr.cell? ⟨b0, 2, none⟩ = some (.int .u32 (st.c.toNat : Int)) := hst.cell 2
        have f : wr.frozen? ⟨b0, 2, none⟩ = false := hst.free 2
        have hx : ∀ w', (Instr.index 45 (.agg #[.int .u32 (T.a.toNat : Int), .int .u32 (T.b.toNat : Int), .int .u32 (T.c.toNat : Int), .int .u32 (T.d.toNat : Int), .int .u32 (T.e.toNat : Int), .int .u32 (T.f.toNat : Int), .int .u32 (T.g.toNat : Int), .int .u32 (T.h.toNat : Int)]) (.int .i64 2)).run Try.prog w' = .ok (.int .u32 (T.c.toNat : Int)) w' := fun _ => rfl
        have HS := Lib.hid hst
        have HRS := Lib.hid hres
        clear hst hres
        go_wp2_with fail
        rw [L_add]
        go_roundw
        case rel => exact ⟨3, by omega, by go_num, HB.out.setCell (Nat.le_refl _) _, HS.out.set 2 _, HRS.out.setOther (by simp) _, (Below.heap_setCell _ _ _ _ (by simp; omega)).trans HD.out⟩
        case measure => simp [intOf]
      · have c : wr.cell? ⟨b0, 3, none⟩ = some (.int .u32 (st.d.toNat : Int)) := hst.cell 3
        have f : wr.frozen? ⟨b0, 3, none⟩ = false := hst.free 3
        have hx : ∀ w', (Instr.index 45 (.agg #[.int .u32 (T.a.toNat : Int), .int .u32 (T.b.toNat : Int), .int .u32 (T.c.toNat : Int), .int .u32 (T.d.toNat : Int), .int .u32 (T.e.toNat : Int), .int .u32 (T.f.toNat : Int), .int .u32 (T.g.toNat : Int), .int .u32 (T.h.toNat : Int)]) (.int .i64 3)).run Try.prog w' = .ok (.int .u32 (T.d.toNat : Int)) w' := fun _ => rfl
        have HS := Lib.hid hst
        have HRS := Lib.hid hres
        clear hst hres
        go_wp2_with fail
        rw [L_add]
        go_roundw
        case rel => exact ⟨4, by omega, by go_num, HB.out.setCell (Nat.le_refl _) _, HS.out.set 3 _, HRS.out.setOther (by simp) _, (Below.heap_setCell _ _ _ _ (by simp; omega)).trans HD.out⟩
        case measure => simp [intOf]
      · have c : wr.cell? ⟨b0, 4, none⟩ = some (.int .u32 (st.e.toNat : Int)) := hst.cell 4
        have f : wr.frozen? ⟨b0, 4, none⟩ = false := hst.free 4
        have hx : ∀ w', (Instr.index 45 (.agg #[.int .u32 (T.a.toNat : Int), .int .u32 (T.b.toNat : Int), .int .u32 (T.c.toNat : Int), .int .u32 (T.d.toNat : Int), .int .u32 (T.e.toNat : Int), .int .u32 (T.f.toNat : Int), .int .u32 (T.g.toNat : Int), .int .u32 (T.h.toNat : Int)]) (.int .i64 4)).run Try.prog w' = .ok (.int .u32 (T.e.toNat : Int)) w' := fun _ => rfl
        have HS := Lib.hid hst
        have HRS := Lib.hid hres
        clear hst hres
        go_wp2_with fail
        rw [L_add]
        go_roundw
        case rel => exact ⟨5, by omega, by go_num, HB.out.setCell (Nat.le_refl _) _, HS.out.set 4 _, HRS.out.setOther (by simp) _, (Below.heap_setCell _ _ _ _ (by simp; omega)).trans HD.out⟩
        case measure => simp [intOf]
      · have c : wr.cell? ⟨b0, 5, none⟩ = some (.int .u32 (st.f.toNat : Int)) := hst.cell 5
        have f : wr.frozen? ⟨b0, 5, none⟩ = false := hst.free 5
        have hx : ∀ w', (Instr.index 45 (.agg #[.int .u32 (T.a.toNat : Int), .int .u32 (T.b.toNat : Int), .int .u32 (T.c.toNat : Int), .int .u32 (T.d.toNat : Int), .int .u32 (T.e.toNat : Int), .int .u32 (T.f.toNat : Int), .int .u32 (T.g.toNat : Int), .int .u32 (T.h.toNat : Int)]) (.int .i64 5)).run Try.prog w' = .ok (.int .u32 (T.f.toNat : Int)) w' := fun _ => rfl
        have HS := Lib.hid hst
        have HRS := Lib.hid hres
        clear hst hres
        go_wp2_with fail
        rw [L_add]
        go_roundw
        case rel => exact ⟨6, by omega, by go_num, HB.out.setCell (Nat.le_refl _) _, HS.out.set 5 _, HRS.out.setOther (by simp) _, (Below.heap_setCell _ _ _ _ (by simp; omega)).trans HD.out⟩
        case measure => simp [intOf]
      · have c : wr.cell? ⟨b0, 6, none⟩ = some (.int .u32 (st.g.toNat : Int)) := hst.cell 6
        have f : wr.frozen? ⟨b0, 6, none⟩ = false := hst.free 6
        have hx : ∀ w', (Instr.index 45 (.agg #[.int .u32 (T.a.toNat : Int), .int .u32 (T.b.toNat : Int), .int .u32 (T.c.toNat : Int), .int .u32 (T.d.toNat : Int), .int .u32 (T.e.toNat : Int), .int .u32 (T.f.toNat : Int), .int .u32 (T.g.toNat : Int), .int .u32 (T.h.toNat : Int)]) (.int .i64 6)).run Try.prog w' = .ok (.int .u32 (T.g.toNat : Int)) w' := fun _ => rfl
        have HS := Lib.hid hst
        have HRS := Lib.hid hres
        clear hst hres
        go_wp2_with fail
        rw [L_add]
        go_roundw
        case rel => exact ⟨7, by omega, by go_num, HB.out.setCell (Nat.le_refl _) _, HS.out.set 6 _, HRS.out.setOther (by simp) _, (Below.heap_setCell _ _ _ _ (by simp; omega)).trans HD.out⟩
        case measure => simp [intOf]
      · have c : wr.cell? ⟨b0, 7, none⟩ = some (.int .u32 (st.h.toNat : Int)) := hst.cell 7
        have f : wr.frozen? ⟨b0, 7, none⟩ = false := hst.free 7
        have hx : ∀ w', (Instr.index 45 (.agg #[.int .u32 (T.a.toNat : Int), .int .u32 (T.b.toNat : Int), .int .u32 (T.c.toNat : Int), .int .u32 (T.d.toNat : Int), .int .u32 (T.e.toNat : Int), .int .u32 (T.f.toNat : Int), .int .u32 (T.g.toNat : Int), .int .u32 (T.h.toNat : Int)]) (.int .i64 7)).run Try.prog w' = .ok (.int .u32 (T.h.toNat : Int)) w' := fun _ => rfl
        have HS := Lib.hid hst
        have HRS := Lib.hid hres
        clear hst hres
        go_wp2_with fail
        rw [L_add]
        go_roundw
        case rel => exact ⟨8, by omega, by go_num, HB.out.setCell (Nat.le_refl _) _, HS.out.set 7 _, HRS.out.setOther (by simp) _, (Below.heap_setCell _ _ _ _ (by simp; omega)).trans HD.out⟩
        case measure => simp [intOf]
      · have hst : Blk wr b0 (addS st T).cs 45 := hst
        have hrt : Blk wr (b0 + 1) #[.int .u32 0, .int .u32 0, .int .u32 0, .int .u32 0, .int .u32 0, .int .u32 0, .int .u32 0, .int .u32 0] 45 := hres
        have hmm := HMM.out
        generalize addS st T = Z at *
        have z0 : wr.cell? ⟨b0, 0, none⟩ = some (.int .u32 (Z.a.toNat : Int)) := hst.cell 0
        have r0 : wr.cell? ⟨b0 + 1, 0, none⟩ = some (.int .u32 0) := hrt.cell 0
        have fr0 : wr.frozen? ⟨b0 + 1, 0, none⟩ = false := hrt.free 0
        have z1 : wr.cell? ⟨b0, 1, none⟩ = some (.int .u32 (Z.b.toNat : Int)) := hst.cell 1
        have r1 : wr.cell? ⟨b0 + 1, 1, none⟩ = some (.int .u32 0) := hrt.cell 1
        have fr1 : wr.frozen? ⟨b0 + 1, 1, none⟩ = false := hrt.free 1
        have z2 : wr.cell? ⟨b0, 2, none⟩ = some (.int .u32 (Z.c.toNat : Int)) := hst.cell 2
        have r2 : wr.cell? ⟨b0 + 1, 2, none⟩ = some (.int .u32 0) := hrt.cell 2
        have fr2 : wr.frozen? ⟨b0 + 1, 2, none⟩ = false := hrt.free 2
        have z3 : wr.cell? ⟨b0, 3, none⟩ = some (.int .u32 (Z.d.toNat : Int)) := hst.cell 3
        have r3 : wr.cell? ⟨b0 + 1, 3, none⟩ = some (.int .u32 0) := hrt.cell 3
        have fr3 : wr.frozen? ⟨b0 + 1, 3, none⟩ = false := hrt.free 3
        have z4 : wr.cell? ⟨b0, 4, none⟩ = some (.int .u32 (Z.e.toNat : Int)) := hst.cell 4
        have r4 : wr.cell? ⟨b0 + 1, 4, none⟩ = some (.int .u32 0) := hrt.cell 4
        have fr4 : wr.frozen? ⟨b0 + 1, 4, none⟩ = false := hrt.free 4
        have z5 : wr.cell? ⟨b0, 5, none⟩ = some (.int .u32 (Z.f.toNat : Int)) := hst.cell 5
        have r5 : wr.cell? ⟨b0 + 1, 5, none⟩ = some (.int .u32 0) := hrt.cell 5
        have fr5 : wr.frozen? ⟨b0 + 1, 5, none⟩ = false := hrt.free 5
        have z6 : wr.cell? ⟨b0, 6, none⟩ = some (.int .u32 (Z.g.toNat : Int)) := hst.cell 6
        have r6 : wr.cell? ⟨b0 + 1, 6, none⟩ = some (.int .u32 0) := hrt.cell 6
        have fr6 : wr.frozen? ⟨b0 + 1, 6, none⟩ = false := hrt.free 6
        have z7 : wr.cell? ⟨b0, 7, none⟩ = some (.int .u32 (Z.h.toNat : Int)) := hst.cell 7
        have r7 : wr.cell? ⟨b0 + 1, 7, none⟩ = some (.int .u32 0) := hrt.cell 7
        have fr7 : wr.frozen? ⟨b0 + 1, 7, none⟩ = false := hrt.free 7
        have HMZ := Lib.hid hmm
        clear hmm HMM hres
        have HRT := Lib.hid hrt
        clear hrt hst
        go_wp2_with fail
        have hF := ((((((((HRT.out.set 0 (.int .u32 (Z.a.toNat : Int))).set 1 (.int .u32 (Z.b.toNat : Int))).set 2 (.int .u32 (Z.c.toNat : Int))).set 3 (.int .u32 (Z.d.toNat : Int))).set 4 (.int .u32 (Z.e.toNat : Int))).set 5 (.int .u32 (Z.f.toNat : Int))).set 6 (.int .u32 (Z.g.toNat : Int))).set 7 (.int .u32 (Z.h.toNat : Int)))
        have hBF := (below_set (below_set (below_set (below_set (below_set (below_set (below_set (below_set HB.out 0 (.int .u32 (Z.a.toNat : Int))) 1 (.int .u32 (Z.b.toNat : Int))) 2 (.int .u32 (Z.c.toNat : Int))) 3 (.int .u32 (Z.d.toNat : Int))) 4 (.int .u32 (Z.e.toNat : Int))) 5 (.int .u32 (Z.f.toNat : Int))) 6 (.int .u32 (Z.g.toNat : Int))) 7 (.int .u32 (Z.h.toNat : Int)))
        have hDne : D ≠ b0 + 1 := by omega
        have hDF := HD.out
        rw [← Below.heap_setCell _ ⟨b0 + 1, 0, none⟩ (.int .u32 (Z.a.toNat : Int)) D (by simpa using hDne)] at hDF
        rw [← Below.heap_setCell _ ⟨b0 + 1, 1, none⟩ (.int .u32 (Z.b.toNat : Int)) D (by simpa using hDne)] at hDF
        rw [← Below.heap_setCell _ ⟨b0 + 1, 2, none⟩ (.int .u32 (Z.c.toNat : Int)) D (by simpa using hDne)] at hDF
        rw [← Below.heap_setCell _ ⟨b0 + 1, 3, none⟩ (.int .u32 (Z.d.toNat : Int)) D (by simpa using hDne)] at hDF
        rw [← Below.heap_setCell _ ⟨b0 + 1, 4, none⟩ (.int .u32 (Z.e.toNat : Int)) D (by simpa using hDne)] at hDF
        rw [← Below.heap_setCell _ ⟨b0 + 1, 5, none⟩ (.int .u32 (Z.f.toNat : Int)) D (by simpa using hDne)] at hDF
        rw [← Below.heap_setCell _ ⟨b0 + 1, 6, none⟩ (.int .u32 (Z.g.toNat : Int)) D (by simpa using hDne)] at hDF
        rw [← Below.heap_setCell _ ⟨b0 + 1, 7, none⟩ (.int .u32 (Z.h.toNat : Int)) D (by simpa using hDne)] at hDF
        simp only [List.setIfInBounds_toArray, List.set_cons_zero, List.set_cons_succ] at hF
        revert hF hBF hDF
        generalize ((((((((wr.setCell ⟨b0 + 1, 0, none⟩ (.int .u32 (Z.a.toNat : Int))).setCell ⟨b0 + 1, 1, none⟩ (.int .u32 (Z.b.toNat : Int))).setCell ⟨b0 + 1, 2, none⟩ (.int .u32 (Z.c.toNat : Int))).setCell ⟨b0 + 1, 3, none⟩ (.int .u32 (Z.d.toNat : Int))).setCell ⟨b0 + 1, 4, none⟩ (.int .u32 (Z.e.toNat : Int))).setCell ⟨b0 + 1, 5, none⟩ (.int .u32 (Z.f.toNat : Int))).setCell ⟨b0 + 1, 6, none⟩ (.int .u32 (Z.g.toNat : Int))).setCell ⟨b0 + 1, 7, none⟩ (.int .u32 (Z.h.toNat : Int))) = wf
        intro hBF hDF hF
        have hF : Blk wf (b0 + 1) Z.cs 45 := hF
        refine ⟨by simp, .inl ⟨_, _, rfl, run_takeDeferred hDF, ?_⟩⟩
        have hG : Blk (wf.putObj D (.deferred none)) (b0 + 1) Z.cs 45 := (World.putObj_heap_other (by omega)).trans hF
        have hBG : Below b0 w (wf.putObj D (.deferred none)) := hBF.grown (grownBy_putObj' wf D _) (by have := hF.lt; omega) (fun k hk => by cases hk; omega)
        generalize wf.putObj D (.deferred none) = wG at hG hBG ⊢
        have q0 : wG.cell? ⟨b0 + 1, 0, none⟩ = some (.int .u32 (Z.a.toNat : Int)) := hG.cell 0
        have q1 : wG.cell? ⟨b0 + 1, 1, none⟩ = some (.int .u32 (Z.b.toNat : Int)) := hG.cell 1
        have q2 : wG.cell? ⟨b0 + 1, 2, none⟩ = some (.int .u32 (Z.c.toNat : Int)) := hG.cell 2
        have q3 : wG.cell? ⟨b0 + 1, 3, none⟩ = some (.int .u32 (Z.d.toNat : Int)) := hG.cell 3
        have q4 : wG.cell? ⟨b0 + 1, 4, none⟩ = some (.int .u32 (Z.e.toNat : Int)) := hG.cell 4
        have q5 : wG.cell? ⟨b0 + 1, 5, none⟩ = some (.int .u32 (Z.f.toNat : Int)) := hG.cell 5
        have q6 : wG.cell? ⟨b0 + 1, 6, none⟩ = some (.int .u32 (Z.g.toNat : Int)) := hG.cell 6
        have q7 : wG.cell? ⟨b0 + 1, 7, none⟩ = some (.int .u32 (Z.h.toNat : Int)) := hG.cell 7
        refine ⟨.agg Z.cs, ?_, ?_⟩
        · unfold S8.cs
          simp [results, Try.results80, go_sem, q0, q1, q2, q3, q4, q5, q6, q7]
        · rw [HB0.out]
          exact ⟨by rw [HMZ.out], hBG⟩
end Go.Proofs.Ytemfecdpjegocaa
