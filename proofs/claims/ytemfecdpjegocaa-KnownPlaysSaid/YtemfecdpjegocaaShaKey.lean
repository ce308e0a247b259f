/- The walk of the document's MakeKey. -/
import Derived.Test.YtemfecdpjegocaaShaKeyPlain
import Derived.Test.YtemfecdpjegocaaShaFrac
import Derived.Test.YtemfecdpjegocaaWhole
namespace Go.Proofs.Ytemfecdpjegocaa
open Go.RowKit Go.Shelf
set_option linter.unusedVariables false
set_option linter.unusedSimpArgs false

/-- Words as cells. -/
def kA (l : List Nat) : Array Value := (l.map fun d : Nat => Value.int .u32 (d : Int)).toArray
theorem kA_size (l : List Nat) : (kA l).size = l.length := by simp [kA]
theorem kA_get (l : List Nat) (i : Nat) (h : i < l.length) : (kA l)[i]? = some (.int .u32 ((l.getD i 0 : Nat) : Int)) := by
  unfold kA
  simp [List.getElem?_eq_getElem h]
theorem kA_set (l : List Nat) (i x : Nat) : (kA l).setIfInBounds i (.int .u32 (x : Int)) = kA (l.set i x) := by
  unfold kA
  simp [List.map_set]
theorem kA_one (l : List Nat) : (kA l).all (·.oneCell') = true := by
  rw [Array.all_eq_true_iff_forall_mem]
  intro v hv
  unfold kA at hv
  simp at hv
  obtain ⟨d, _, rfl⟩ := hv
  rfl
theorem key_info : (Try.prog.info? 47).map (fun i => (i.zero, i.size)) = some (some (.agg (kA (List.replicate 72 0))), 72) := by kernel_rfl
theorem key_zero (f3 f2 : Nat → Nat) : keyG f3 f2 [] = List.replicate 72 0 := by
  unfold keyG
  simp
  decide
structure FracBy (f3 f2 : Nat → Nat) : Prop where
  three : ∀ (p : Nat) (w : World), p < 4294967296 → Calls Try.prog 49 #[.int .u64 p, .int .i64 3] w fun e w' => e = .returned (.int .u32 (f3 p : Nat)) ∧ Below w.heap.size w w'
  two : ∀ (p : Nat) (w : World), p < 4294967296 → Calls Try.prog 49 #[.int .u64 p, .int .i64 2] w fun e w' => e = .returned (.int .u32 (f2 p : Nat)) ∧ Below w.heap.size w w'
theorem frac_by : FracBy (fun p => fracN p 3) (fun p => fracN p 2) := ⟨fun p w h => ref_frac3 p h w, fun p w h => ref_frac2 p h w⟩

/-- What the walk holds. -/
structure KeyAt (B bk br : Nat) (w0 w : World) (L : List Nat) : Prop where
  key : Blk w bk (kA L) 47
  res : Blk w br (kA (List.replicate 72 0)) 47
  below : Below B w0 w
theorem KeyAt.after {B bk br : Nat} {w0 w w' : World} {L : List Nat} (h : KeyAt B bk br w0 w L) (hb : Below w.heap.size w w') (hB : B ≤ w.heap.size) : KeyAt B bk br w0 w' L :=
  ⟨Below.blk hb h.key h.key.lt, Below.blk hb h.res h.res.lt, h.below.trans (hb.mono hB)⟩
theorem KeyAt.put {B bk br : Nat} {w0 w : World} {L : List Nat} (h : KeyAt B bk br w0 w L) (hk : B ≤ bk) (hne : br ≠ bk) (i x : Nat) : KeyAt B bk br w0 (w.setCell ⟨bk, i, none⟩ (.int .u32 (x : Int))) (L.set i x) :=
  ⟨by have := h.key.set i (.int .u32 (x : Int)); rwa [kA_set] at this, h.res.setOther hne _, h.below.setCell hk _⟩

set_option maxRecDepth 100000 in
set_option maxHeartbeats 1000000 in
theorem ref_keyG (f3 f2 : Nat → Nat) (hf : FracBy f3 f2) (w : World) :
    Calls Try.prog 19 #[] w fun e w' => e = .returned (.agg (kA (keyG f3 f2 (primesB 312)))) ∧ Below w.heap.size w w' := by
  have HF := Lib.hid hf
  clear hf
  obtain ⟨B, hB⟩ : ∃ B, w.heap.size = B := ⟨_, rfl⟩
  have hz := (zero_of_info (P := Try.prog) key_info).1
  obtain ⟨Z, hZ⟩ : ∃ Z, Z = kA (List.replicate 72 0) := ⟨_, rfl⟩
  rw [← hZ] at hz
  have HB := Lib.hid hB
  have HZ := Lib.hid hZ
  rw [hB]
  clear hZ
  go_enter Try.func19, Try.ntmps19
  go_upto_region 2 with fail
  have hK0 : KeyAt B (B + 1) B w ((w.alloc (.cells Z 47)).alloc (.cells Z 47)) (keyG f3 f2 (primesB 2)) := by
    rw [primesB_start, key_zero]
    rw [HZ.out, ← hB]
    refine ⟨?_, (Blk.new _ _ _).alloc _, ((Below.refl _ _).alloc (Nat.le_refl _) _).alloc (by simp) _⟩
    have := Blk.new (w.alloc (.cells (kA (List.replicate 72 0)) 47)) (kA (List.replicate 72 0)) 47
    rwa [World.size_alloc] at this
  refine wp_gen (fun W => KeyAt B (B + 1) B w W (keyG f3 f2 (primesB 2))) hK0 ?_
  clear hz hK0 hB HZ Z
  rintro w1 hK0
  have HK0 := Lib.hid hK0
  clear hK0
  go_wp2_with fail
  go_loopw [2, 3] (fun nv pv wr => ∃ (p n : Nat), pv = .int .u64 p ∧ nv = .int .i64 n ∧ 2 ≤ p ∧ p ≤ 312 ∧ n ≤ 64 ∧ Hid (n = (primesB p).length) ∧ Hid (KeyAt B (B + 1) B w wr (keyG f3 f2 (primesB p)))) (fun _ pv _ => 312 - (intOf pv).toNat)
  case atStart => exact ⟨2, 0, rfl, rfl, by omega, by omega, by omega, rfl, HK0⟩
  case round =>
    clear HK0 w1
    obtain ⟨p, n, rfl, rfl, hp2, hp3, hn64, hn, hK⟩ := hrel
    have hp311 : n < 64 → p < 312 := fun h => by
      have h1 := hn.out
      rcases Nat.lt_or_ge p 312 with h2 | h2
      · exact h2
      · obtain rfl : p = 312 := by omega
        rw [primesB_len] at h1; omega
    have hBw : B + 1 < wr.heap.size := hK.out.key.lt
    by_cases c : n < 64
    · have hp4 := hp311 c
      clear hp311
      go_wp2_with fail
      go_loopw [4, 5] (fun rv dv wr' => ∃ (d : Nat) (pr : Bool), rv = .bool pr ∧ dv = .int .u64 d ∧ 2 ≤ d ∧ d ≤ p ∧ Hid (pr = isPd p d) ∧ wr' = wr) (fun _ dv _ => p - (intOf dv).toNat)
      case atStart => exact ⟨2, true, rfl, rfl, by omega, by omega, rfl, rfl⟩
      case round =>
        obtain ⟨d, pr, rfl, rfl, hd2, hdp, hpr, rfl⟩ := hrel
        by_cases cd : d < p
        · cases pr with
          | true =>
            go_wp2_with fail
            refine ⟨⟨d + 1, _, rfl, by go_num, by omega, by omega, ?_, trivial⟩, by simp [intOf]; omega⟩
            unfold Hid
            rw [isPd_step p d hd2, ← hpr.out, Bool.true_and]
            congr 1
            exact propext ⟨fun h => by omega, fun h => by omega⟩
          | false =>
            go_wp2_with fail
            refine ⟨⟨d + 1, _, rfl, by go_num, by omega, by omega, ?_, trivial⟩, by simp [intOf]; omega⟩
            unfold Hid
            rw [isPd_step p d hd2, ← hpr.out, Bool.false_and]
        · obtain rfl : d = p := by omega
          cases pr with
          | false =>
            have hno := primesB_no d hp2 hpr.out.symm
            go_wp2_with fail
            exact ⟨⟨d + 1, n, by go_num, rfl, by omega, by omega, hn64, by rw [hno]; exact hn, by rw [hno]; exact hK⟩, by simp [intOf]; omega⟩
          | true =>
            have hyes := primesB_yes d hp2 hpr.out.symm
            have HY := Lib.hid hyes
            clear hyes
            go_wp2_with fail
            refine (HF.out.three d _ (by omega)).mono ?_
            rintro e w2 ⟨rfl, hb2⟩
            have hK2 := hK.out.after hb2 (by omega)
            have hBw2 : B + 1 < w2.heap.size := hK2.key.lt
            have g0 : w2.cell? ⟨B + 1, n, none⟩ = some (.int .u32 (((keyG f3 f2 (primesB d)).getD n 0 : Nat) : Int)) := by
              rw [hK2.key.cell, kA_get _ _ (by rw [keyG_length]; omega)]
            generalize (keyG f3 f2 (primesB d)).getD n 0 = old at g0
            have f0 : w2.frozen? ⟨B + 1, n, none⟩ = false := hK2.key.free _
            have HK2 := Lib.hid hK2
            clear hK2 hK hb2
            by_cases c8 : n < 8
            · go_upto_region 13 with fail
              have hK3 := HK2.out.put (by omega) (by omega) n (f3 d)
              generalize w2.setCell ⟨B + 1, n, none⟩ (.int .u32 (f3 d : Nat)) = w3 at *
              have hBw3 : B + 1 < w3.heap.size := hK3.key.lt
              have HK3 := Lib.hid hK3
              clear hK3 g0 f0 HK2
              go_wp2_with fail
              refine (HF.out.two d _ (by omega)).mono ?_
              rintro e w4 ⟨rfl, hb4⟩
              have hK4 := HK3.out.after hb4 (by omega)
              have g0 : w4.cell? ⟨B + 1, 64 + n, none⟩ = some (.int .u32 (((((keyG f3 f2 (primesB d)).set n (f3 d)).getD (64 + n) 0 : Nat) : Nat) : Int)) := by
                rw [hK4.key.cell, kA_get _ _ (by rw [List.length_set, keyG_length]; omega)]
              generalize ((keyG f3 f2 (primesB d)).set n (f3 d)).getD (64 + n) 0 = old at g0
              have f0 : w4.frozen? ⟨B + 1, 64 + n, none⟩ = false := hK4.key.free _
              have hset := keyG_set2 f3 f2 (primesB d) d n hn.out c8
              have hK5 := hK4.put (by omega) (by omega) (64 + n) (f2 d)
              rw [hset, ← HY.out] at hK5
              have hn1 : n + 1 = (primesB (d + 1)).length := by rw [HY.out, List.length_append, List.length_singleton, ← hn.out]
              have HK5 := Lib.hid hK5
              have HN1 := Lib.hid hn1
              clear hK4 hset hK5 hn1 HK3 hb4
              go_wp2_with fail
              exact ⟨⟨d + 1, n + 1, by go_num, by go_num, by omega, by omega, by omega, HN1, HK5⟩, by simp [intOf]; omega⟩
            · go_wp2_with fail
              have hset := keyG_set3 f3 f2 (primesB d) d n hn.out (by omega) c
              have hK3 := HK2.out.put (by omega) (by omega) n (f3 d)
              rw [hset, ← HY.out] at hK3
              have hn1 : n + 1 = (primesB (d + 1)).length := by rw [HY.out, List.length_append, List.length_singleton, ← hn.out]
              exact ⟨⟨d + 1, n + 1, by go_num, by go_num, by omega, by omega, by omega, hn1, hK3⟩, by simp [intOf]; omega⟩
    · obtain rfl : n = 64 := by omega
      have hpe : p = 312 := by
        rcases Nat.lt_or_ge p 312 with h2 | h2
        · have := primesB_lt p h2; rw [← hn.out] at this; omega
        · omega
      subst hpe
      have hkey := hK.out.key
      have hres := hK.out.res
      have hold : (kA (List.replicate 72 0)).size = (kA (keyG f3 f2 (primesB 312))).size := by rw [kA_size, kA_size, keyG_length]; rfl
      have h1 := kA_one (keyG f3 f2 (primesB 312))
      have hr := hK.out.res.setRow (kA (keyG f3 f2 (primesB 312)))
      have hB2 := Below.setRow hK.out.below (Nat.le_refl _) (kA (keyG f3 f2 (primesB 312)))
      have hi : (Try.prog.info? 47).map (·.size) = some (kA (keyG f3 f2 (primesB 312))).size := by rw [kA_size, keyG_length]; exact (zero_of_info (P := Try.prog) key_info).2
      clear hp311 hn
      generalize hKA : kA (keyG f3 f2 (primesB 312)) = KA at *
      have HKA := Lib.hid hKA
      clear hKA
      have HR := Lib.hid hr
      have HB2 := Lib.hid hB2
      have HI := Lib.hid hi
      generalize kA (List.replicate 72 0) = K0 at *
      have H4 := Lib.hid (And.intro hkey (And.intro hres (And.intro hold h1)))
      clear hr hB2 hK hi hkey hres hold h1
      go_wp2_with (first | (refine wpList_load_row rfl 47 (.tmp 1) rfl (B + 1) rfl _ KA (0, 0) _ H4.out.1 Try.underlying47 rfl HI.out ?_) | (refine wpList_store_row rfl 47 (.tmp 0) (.tmp 38) rfl B KA rfl rfl _ K0 H4.out.2.1 HI.out H4.out.2.2.1 H4.out.2.2.2 ?_))
      exact bodyPost_ret (v := .agg KA) (results_cell_row (P := Try.prog) Try.results19 _ _ B _ KA (0, 0) _ rfl HR.out Try.underlying47 rfl HI.out) rfl ⟨by rw [HKA.out], HB2.out⟩
theorem ref_key (w : World) : Calls Try.prog 19 #[] w fun e w' => e = .returned (.agg (kA keyN)) ∧ Below w.heap.size w w' :=
  ref_keyG _ _ frac_by w
end Go.Proofs.Ytemfecdpjegocaa
