/- The walk of ShaChain. -/
import Derived.Test.YtekcehicjggmiaaShaAlive
import Derived.Test.YtekcehicjggmiaaShaRefPad
import Derived.WalkLawsBesides
import Derived.Deep.RegionHeld3
namespace Go.Proofs.Ytekcehicjggmiaa
open Go.RowKit Go.Shelf
set_option linter.unusedVariables false
set_option linter.unusedSimpArgs false

set_option maxRecDepth 100000 in
theorem sha_chain_over (s : ByteArray) (w : World) (h : decide ((700 : Int) < s.size) = true) :
    Calls Try.prog 7 #[.string s] w fun e w' => e = .returned (.bool true) ∧ Below w.heap.size w w' := by
  go_enter Try.func7, Try.ntmps7
  go_wp2_with fail
  refine (sha_alive _).mono ?_
  rintro e w1 ⟨rfl, hb1⟩
  go_wp2_with fail
  go_returns
  exact ⟨rfl, hb1⟩

theorem put8_other {w : World} {b c : Nat} {cs : Array Value} {t : TypeId} (h : Blk w c cs t) (hne : c ≠ b) (Z : S8) : Blk (put8 w b Z) c cs t :=
  (((((((h.setOther hne _).setOther hne _).setOther hne _).setOther hne _).setOther hne _).setOther hne _).setOther hne _).setOther hne _
theorem outN_back (x : UInt32) : (((x.toNat / 16777216 % 256 : Nat) : Int) * 16777216 + ((x.toNat / 65536 % 256 : Nat) : Int) * 65536 + ((x.toNat / 256 % 256 : Nat) : Int) * 256 + ((x.toNat % 256 : Nat) : Int)) = (x.toNat : Int) := by
  have := x.toNat_lt
  omega

theorem dig0 (g : S8) (D : ByteArray) (hD : D = ⟨g.out.toArray⟩) (h : D.size = 32) : (D[0]'(by omega)).toNat = g.a.toNat / 16777216 % 256 ∧ (D[1]'(by omega)).toNat = g.a.toNat / 65536 % 256 ∧ (D[2]'(by omega)).toNat = g.a.toNat / 256 % 256 ∧ (D[3]'(by omega)).toNat = g.a.toNat % 256 := by
  subst hD
  exact ⟨u8_ofNat _ (Nat.mod_lt _ (by decide)), u8_ofNat _ (Nat.mod_lt _ (by decide)), u8_ofNat _ (Nat.mod_lt _ (by decide)), u8_ofNat _ (Nat.mod_lt _ (by decide))⟩
theorem dig1 (g : S8) (D : ByteArray) (hD : D = ⟨g.out.toArray⟩) (h : D.size = 32) : (D[4]'(by omega)).toNat = g.b.toNat / 16777216 % 256 ∧ (D[5]'(by omega)).toNat = g.b.toNat / 65536 % 256 ∧ (D[6]'(by omega)).toNat = g.b.toNat / 256 % 256 ∧ (D[7]'(by omega)).toNat = g.b.toNat % 256 := by
  subst hD
  exact ⟨u8_ofNat _ (Nat.mod_lt _ (by decide)), u8_ofNat _ (Nat.mod_lt _ (by decide)), u8_ofNat _ (Nat.mod_lt _ (by decide)), u8_ofNat _ (Nat.mod_lt _ (by decide))⟩
theorem dig2 (g : S8) (D : ByteArray) (hD : D = ⟨g.out.toArray⟩) (h : D.size = 32) : (D[8]'(by omega)).toNat = g.c.toNat / 16777216 % 256 ∧ (D[9]'(by omega)).toNat = g.c.toNat / 65536 % 256 ∧ (D[10]'(by omega)).toNat = g.c.toNat / 256 % 256 ∧ (D[11]'(by omega)).toNat = g.c.toNat % 256 := by
  subst hD
  exact ⟨u8_ofNat _ (Nat.mod_lt _ (by decide)), u8_ofNat _ (Nat.mod_lt _ (by decide)), u8_ofNat _ (Nat.mod_lt _ (by decide)), u8_ofNat _ (Nat.mod_lt _ (by decide))⟩
theorem dig3 (g : S8) (D : ByteArray) (hD : D = ⟨g.out.toArray⟩) (h : D.size = 32) : (D[12]'(by omega)).toNat = g.d.toNat / 16777216 % 256 ∧ (D[13]'(by omega)).toNat = g.d.toNat / 65536 % 256 ∧ (D[14]'(by omega)).toNat = g.d.toNat / 256 % 256 ∧ (D[15]'(by omega)).toNat = g.d.toNat % 256 := by
  subst hD
  exact ⟨u8_ofNat _ (Nat.mod_lt _ (by decide)), u8_ofNat _ (Nat.mod_lt _ (by decide)), u8_ofNat _ (Nat.mod_lt _ (by decide)), u8_ofNat _ (Nat.mod_lt _ (by decide))⟩
theorem dig4 (g : S8) (D : ByteArray) (hD : D = ⟨g.out.toArray⟩) (h : D.size = 32) : (D[16]'(by omega)).toNat = g.e.toNat / 16777216 % 256 ∧ (D[17]'(by omega)).toNat = g.e.toNat / 65536 % 256 ∧ (D[18]'(by omega)).toNat = g.e.toNat / 256 % 256 ∧ (D[19]'(by omega)).toNat = g.e.toNat % 256 := by
  subst hD
  exact ⟨u8_ofNat _ (Nat.mod_lt _ (by decide)), u8_ofNat _ (Nat.mod_lt _ (by decide)), u8_ofNat _ (Nat.mod_lt _ (by decide)), u8_ofNat _ (Nat.mod_lt _ (by decide))⟩
theorem dig5 (g : S8) (D : ByteArray) (hD : D = ⟨g.out.toArray⟩) (h : D.size = 32) : (D[20]'(by omega)).toNat = g.f.toNat / 16777216 % 256 ∧ (D[21]'(by omega)).toNat = g.f.toNat / 65536 % 256 ∧ (D[22]'(by omega)).toNat = g.f.toNat / 256 % 256 ∧ (D[23]'(by omega)).toNat = g.f.toNat % 256 := by
  subst hD
  exact ⟨u8_ofNat _ (Nat.mod_lt _ (by decide)), u8_ofNat _ (Nat.mod_lt _ (by decide)), u8_ofNat _ (Nat.mod_lt _ (by decide)), u8_ofNat _ (Nat.mod_lt _ (by decide))⟩
theorem dig6 (g : S8) (D : ByteArray) (hD : D = ⟨g.out.toArray⟩) (h : D.size = 32) : (D[24]'(by omega)).toNat = g.g.toNat / 16777216 % 256 ∧ (D[25]'(by omega)).toNat = g.g.toNat / 65536 % 256 ∧ (D[26]'(by omega)).toNat = g.g.toNat / 256 % 256 ∧ (D[27]'(by omega)).toNat = g.g.toNat % 256 := by
  subst hD
  exact ⟨u8_ofNat _ (Nat.mod_lt _ (by decide)), u8_ofNat _ (Nat.mod_lt _ (by decide)), u8_ofNat _ (Nat.mod_lt _ (by decide)), u8_ofNat _ (Nat.mod_lt _ (by decide))⟩
theorem dig7 (g : S8) (D : ByteArray) (hD : D = ⟨g.out.toArray⟩) (h : D.size = 32) : (D[28]'(by omega)).toNat = g.h.toNat / 16777216 % 256 ∧ (D[29]'(by omega)).toNat = g.h.toNat / 65536 % 256 ∧ (D[30]'(by omega)).toNat = g.h.toNat / 256 % 256 ∧ (D[31]'(by omega)).toNat = g.h.toNat % 256 := by
  subst hD
  exact ⟨u8_ofNat _ (Nat.mod_lt _ (by decide)), u8_ofNat _ (Nat.mod_lt _ (by decide)), u8_ofNat _ (Nat.mod_lt _ (by decide)), u8_ofNat _ (Nat.mod_lt _ (by decide))⟩

set_option maxRecDepth 100000 in
set_option maxHeartbeats 4000000 in
theorem sha_chain_ok (s : ByteArray) (w : World) (h : s.size ≤ 700) :
    Calls Try.prog 7 #[.string s] w fun e w' => e = .returned (.bool true) ∧ Below w.heap.size w w' := by
  obtain ⟨B, hB⟩ : ∃ B, w.heap.size = B := ⟨_, rfl⟩
  have HB := Lib.hid hB
  have h7 : decide ((700 : Int) < s.size) = false := by simp; omega
  have cp := fun w => sha_pad s.size w (by omega)
  have cs := fun w => sha_sum s w (by omega)
  have cf := Lib.hid (fun w => sha_first w)
  have hpl := padN_length s.size
  have hto := ToMix.start (s.data.toList ++ padN s.size) firstS (by rw [List.length_append, hpl, ← Lib.size_eq]; omega)
  have hsum : sumN s.data.toList = (chainN (s.data.toList ++ padN s.size) ((s.data.toList ++ padN s.size).length / 64) firstS).out := by
    unfold sumN; rw [← Lib.size_eq]
  rw [hsum] at cs
  generalize chainN (s.data.toList ++ padN s.size) ((s.data.toList ++ padN s.size).length / 64) firstS = r at cs hto
  clear hsum
  obtain ⟨R, hR⟩ : ∃ R : ByteArray, R = s ++ ⟨(padN s.size).toArray⟩ := ⟨_, rfl⟩
  have hRl : R.data.toList = s.data.toList ++ padN s.size := by rw [hR]; simp
  have hPs : (⟨(padN s.size).toArray⟩ : ByteArray).size = (padN s.size).length := size_mk _
  have hRs : R.size = s.size + (padN s.size).length := by rw [hR, ByteArray.size_append, hPs]
  rw [← hRl] at hto
  generalize padN s.size = Pd at *
  generalize firstS = g0 at *
  have CP := Lib.hid cp
  have CS := Lib.hid cs
  have HT := Lib.hid hto
  have HRS := Lib.hid (And.intro hRs hpl)
  have hP72 : (⟨Pd.toArray⟩ : ByteArray).size ≤ 72 := by omega
  have hR64 : ((R.size : Int) % 64 != 0) = false := by rw [hRs, hpl]; simp only [bne_eq_false_iff_eq]; omega
  have hR2 : R.size ≤ 800 := by omega
  clear cp cs hto hRs hpl hRl hPs
  go_enter Try.func7, Try.ntmps7
  go_wp2_with fail
  refine (sha_alive _).mono ?_
  rintro e w1 ⟨rfl, hb1⟩
  go_wp2_with fail
  refine (CP.out _).mono ?_
  rintro e w2 ⟨rfl, hb2⟩
  go_upto_region 7 with fail
  rw [← hR]
  have HR := Lib.hid hR
  clear hR
  go_wp2_with fail
  refine (cf.out _).mono ?_
  rintro e w3 ⟨rfl, hb3⟩
  have hB3 := (hb1.trans ((hb2.mono hb1.size).trans (hb3.mono (Nat.le_trans hb1.size hb2.size))))
  rw [hB] at hB3
  unfold S8.cs
  go_upto_region 10 with fail
  obtain ⟨b6, hb6⟩ : ∃ b, w3.heap.size = b := ⟨_, rfl⟩
  have hBb : B ≤ b6 := by have := hB3.size; omega
  refine wp_gen (fun W => Blk W b6 g0.cs 27 ∧ Below B w W) ⟨hb6 ▸ Blk.new w3 g0.cs _, hB3.alloc (by omega) _⟩ ?_
  rw [hb6]
  clear hB3 hb6 w3 hb3 hb2 hb1
  rintro W ⟨hst, hbl⟩
  go_wp2_with fail
  go_loopw [7] (fun i wr => ∃ (p : Nat) (g : S8), i = .int .i64 p ∧ Hid (p ≤ R.size ∧ p % 64 = 0) ∧ Hid (ToMix R.data.toList p g r) ∧ Blk wr b6 g.cs 27 ∧ Below B w wr) (fun i _ => R.size - (intOf i).toNat)
  case atStart => exact ⟨0, g0, rfl, ⟨Nat.zero_le _, rfl⟩, HT, hst, hbl⟩
  case round =>
    clear hst hbl
    obtain ⟨p, g, rfl, hp, hto, hst, hbl⟩ := hrel
    have hpo : p ≤ 800 := Nat.le_trans hp.out.1 hR2
    by_cases hlt : p < R.size
    · have hp64 : p + 64 ≤ R.size := by
        obtain ⟨k, hk, hl⟩ := hto.out
        rw [← Lib.size_eq] at hl
        omega
      have hx := fun (x : Fut wr) => (Below.blk x.is hst hst.lt).eight
      go_upto_region 13 with fail
      have hsz : (R.extract p (p + 64)).size = 64 := by rw [ByteArray.size_extract]; omega
      have cm := Lib.hid (fun w => sha_Mix g (R.extract p (p + 64)) w hsz)
      have hstep := hto.out.step (by rw [← Lib.size_eq]; omega)
      rw [← ext_list] at hstep
      generalize mixN g (R.extract p (p + 64)).data.toList = g1 at cm hstep
      have HS := Lib.hid hstep
      clear hstep hsz
      unfold S8.cs at cm
      have hblr := hst.lt
      have hwa : IntKind.i64.wrap ((p : Int) + 64) = (p : Int) + 64 := IntWalk.i64_in _ ⟨by omega, by omega⟩
      have hwb : IntKind.i64.wrap (p : Int) = (p : Int) := IntWalk.i64_in _ ⟨by omega, by omega⟩
      have hwc : (p : Int) + 64 ≤ R.size := by omega
      have hwd : (0 : Int) ≤ (p : Int) + 64 := by omega
      have hwe : (p : Int) ≤ (p : Int) + 64 := by omega
      have hwf : ((p : Int) + 64).toNat = p + 64 := by omega
      refine wp_then_false ?_
      refine wp_region_held_drew (S := fun w' => Blk w' b6 g.cs 27 ∧ Below B w w') (by kernel_rfl) ⟨Blk.drew hst, hbl.drew⟩ (fun hHeld => ?_)
      refine wpAnyH_take (i := 0) (oi := ?oi0) (v := ?v0) ?hi0 (by kernel_rfl) (by kernel_rfl) (by kernel_rfl) ?hQ0 (Or.inl ⟨?hw0, ?hy0⟩) hHeld ?rest0
      case hi0 => simp only [List.getElem?_toArray, List.getElem?_cons_succ, List.getElem?_cons_zero]; rfl
      case hQ0 => exact fun _ _ _ h => h
      case hw0 => rfl
      case hy0 => (intro w hSw; have q := hSw.1.eight; go_simp; try rfl)
      simp only [Act.put, List.setIfInBounds_toArray, List.set_cons_zero, List.set_cons_succ]
      refine wpAnyH_take (i := 1) (oi := ?oi1) (v := ?v1) ?hi1 (by kernel_rfl) (by kernel_rfl) (by kernel_rfl) ?hQ1 (Or.inl ⟨?hw1, ?hy1⟩) hHeld ?rest1
      case hi1 => simp only [List.getElem?_toArray, List.getElem?_cons_succ, List.getElem?_cons_zero]; rfl
      case hQ1 => exact fun _ _ _ h => h
      case hw1 => rfl
      case hy1 => (intro w hSw; go_simp; try rfl)
      simp only [Act.put, List.setIfInBounds_toArray, List.set_cons_zero, List.set_cons_succ]
      refine wpAnyH_take (i := 2) (oi := ?oi2) (v := ?v2) ?hi2 (by kernel_rfl) (by kernel_rfl) (by kernel_rfl) ?hQ2 (Or.inl ⟨?hw2, ?hy2⟩) hHeld ?rest2
      case hi2 => simp only [List.getElem?_toArray, List.getElem?_cons_succ, List.getElem?_cons_zero]; rfl
      case hQ2 => exact fun _ _ _ h => h
      case hw2 => rfl
      case hy2 => (intro w hSw; go_simp; try rfl)
      simp only [Act.put, List.setIfInBounds_toArray, List.set_cons_zero, List.set_cons_succ]
      refine wpAnyH_take (i := 3) (oi := ?oi3) (v := ?v3) ?hi3 (by kernel_rfl) (by kernel_rfl) (by kernel_rfl) ?hQ3 (Or.inl ⟨?hw3, ?hy3⟩) hHeld ?rest3
      case hi3 => simp only [List.getElem?_toArray, List.getElem?_cons_succ, List.getElem?_cons_zero]; rfl
      case hQ3 => exact fun _ _ _ h => h
      case hw3 => rfl
      case hy3 => (intro w hSw; go_simp; try rfl)
      simp only [Act.put, List.setIfInBounds_toArray, List.set_cons_zero, List.set_cons_succ]
      refine wpAnyH_take (i := 4) (oi := ?oi4) (v := ?v4) ?hi4 (by kernel_rfl) (by kernel_rfl) (by kernel_rfl) ?hQ4 (Or.inl ⟨?hw4, ?hy4⟩) hHeld ?rest4
      case hi4 => simp only [List.getElem?_toArray, List.getElem?_cons_succ, List.getElem?_cons_zero]; rfl
      case hQ4 => exact fun _ _ _ h => h
      case hw4 => rfl
      case hy4 => (intro w hSw; go_simp; try rfl)
      simp only [Act.put, List.setIfInBounds_toArray, List.set_cons_zero, List.set_cons_succ]
      refine wpAnyH_take (i := 5) (oi := ?oi5) (v := ?v5) ?hi5 (by kernel_rfl) (by kernel_rfl) (by kernel_rfl) ?hQ5 (Or.inl ⟨?hw5, ?hy5⟩) hHeld ?rest5
      case hi5 => simp only [List.getElem?_toArray, List.getElem?_cons_succ, List.getElem?_cons_zero]; rfl
      case hQ5 => exact fun _ _ _ h => h
      case hw5 => rfl
      case hy5 => (intro w hSw; go_simp; try rfl)
      simp only [Act.put, List.setIfInBounds_toArray, List.set_cons_zero, List.set_cons_succ]
      refine wpAnyH_ready (rs := [6, 10]) (by kernel_rfl) (by simp) ?_
      refine AllReadyH.cons (o := ?oi6) ?hi6 (fun K hK => ?_) (AllReadyH.cons (o := ?oi10) ?hi10 (fun K hK => ?_) AllReadyH.nil)
      case hi6 => simp only [List.getElem?_toArray, List.getElem?_cons_succ, List.getElem?_cons_zero]; rfl
      case hi10 => simp only [List.getElem?_toArray, List.getElem?_cons_succ, List.getElem?_cons_zero]; rfl
      · go_simp
        refine (cm.out _).mono ?_
        rintro e w4 ⟨rfl, hb4⟩
        have hz4 : wr.heap.size ≤ w4.heap.size := hb4.size
        have hS4 : Blk w4 b6 g.cs 27 ∧ Below B w w4 := ⟨Below.blk hb4 (Blk.drew hst) hblr, hbl.drew.trans (hb4.mono (by show B ≤ wr.heap.size; omega))⟩
        refine hK.out _ _ hS4 (fun hHeld4 => ?_)
        clear hK K
        try simp only [Act.put, List.setIfInBounds_toArray, List.set_cons_zero, List.set_cons_succ]
        refine wpAnyH_take (i := 7) (oi := ?oi7a) (v := ?v7a) ?hi7a (by kernel_rfl) (by kernel_rfl) (by kernel_rfl) ?hQ7a (Or.inl ⟨?hw7a, ?hy7a⟩) hHeld4 ?rest7a
        case hi7a => simp only [List.getElem?_toArray, List.getElem?_cons_succ, List.getElem?_cons_zero]; rfl
        case hQ7a => exact fun _ _ _ h => h
        case hw7a => rfl
        case hy7a => (intro w hSw; go_simp; try rfl)
        simp only [Act.put, List.setIfInBounds_toArray, List.set_cons_zero, List.set_cons_succ]
        refine wpAnyH_take (i := 8) (oi := ?oi8a) (v := ?v8a) ?hi8a (by kernel_rfl) (by kernel_rfl) (by kernel_rfl) ?hQ8a (Or.inl ⟨?hw8a, ?hy8a⟩) hHeld4 ?rest8a
        case hi8a => simp only [List.getElem?_toArray, List.getElem?_cons_succ, List.getElem?_cons_zero]; rfl
        case hQ8a => exact fun _ _ _ h => h
        case hw8a => rfl
        case hy8a => (intro w hSw; go_simp; try rfl)
        simp only [Act.put, List.setIfInBounds_toArray, List.set_cons_zero, List.set_cons_succ]
        refine wpAnyH_take (i := 9) (oi := ?oi9a) (v := ?v9a) ?hi9a (by kernel_rfl) (by kernel_rfl) (by kernel_rfl) ?hQ9a (Or.inl ⟨?hw9a, ?hy9a⟩) hHeld4 ?rest9a
        case hi9a => simp only [List.getElem?_toArray, List.getElem?_cons_succ, List.getElem?_cons_zero]; rfl
        case hQ9a => exact fun _ _ _ h => h
        case hw9a => rfl
        case hy9a => (intro w hSw; go_simp; try rfl)
        simp only [Act.put, List.setIfInBounds_toArray, List.set_cons_zero, List.set_cons_succ]
        refine wpAnyH_ready (rs := [10]) (by kernel_rfl) (by simp) ?_
        refine AllReadyH.cons (o := ?oi10a) ?hi10a (fun K hK => ?_) AllReadyH.nil
        case hi10a => simp only [List.getElem?_toArray, List.getElem?_cons_succ, List.getElem?_cons_zero]; rfl
        go_simp
        refine hK.out _ _ ⟨hS4.1.alloc _, hS4.2.alloc (by omega) _⟩ (fun hHelda10 => ?_)
        clear hK K
        try simp only [Act.put, List.setIfInBounds_toArray, List.set_cons_zero, List.set_cons_succ]
        refine wpAnyH_ready (rs := [11]) (by kernel_rfl) (by simp) ?_
        refine AllReadyH.cons (o := ?oi11a) ?hi11a (fun K hK => ?_) AllReadyH.nil
        case hi11a => simp only [List.getElem?_toArray, List.getElem?_cons_succ, List.getElem?_cons_zero]; rfl
        go_simp
        refine hK.out _ _ ⟨hS4.1.alloc _, hS4.2.alloc (by omega) _⟩ (fun hHelda11 => ?_)
        clear hK K
        try simp only [Act.put, List.setIfInBounds_toArray, List.set_cons_zero, List.set_cons_succ]
        refine wpAnyH_take (i := 12) (oi := ?oi12a) (v := ?v12a) ?hi12a (by kernel_rfl) (by kernel_rfl) (by kernel_rfl) ?hQ12a (Or.inl ⟨?hw12a, ?hy12a⟩) hHelda11 ?rest12a
        case hi12a => simp only [List.getElem?_toArray, List.getElem?_cons_succ, List.getElem?_cons_zero]; rfl
        case hQ12a => exact fun _ _ _ h => h
        case hw12a => rfl
        case hy12a => (intro w hSw; go_simp; try rfl)
        simp only [Act.put, List.setIfInBounds_toArray, List.set_cons_zero, List.set_cons_succ]
        refine wpAnyH_done (by kernel_rfl) ?_ _
        have hb8 := Blk.new w4 g1.cs 27
        have hb66 : Blk (w4.alloc (.cells g1.cs 27)) b6 g.cs 27 := hS4.1.alloc _
        have hbl6 : Below B w (w4.alloc (.cells g1.cs 27)) := hS4.2.alloc (by omega) _
        clear hHeld4 hHelda10 hHelda11 hS4 hb4 hHeld hx
        change Exit.then _ _ _ _ (w4.alloc (.cells g1.cs 27))
        generalize w4.alloc (.cells g1.cs 27) = W8 at *
        generalize w4.heap.size = b8 at *
        have e8 := hb8.eight
        have e6 := hb66.eight
        have fr := hb66.free
        have HB6 := Lib.hid hb66
        have HBL := Lib.hid hbl6
        clear hb8 hb66 hbl6
        go_wp2_with fail
        have hpo2 := hp.out
        exact ⟨⟨p + 64, g1, by go_num, ⟨by omega, by omega⟩, HS, put8_blk HB6.out g1, put8_below HBL.out hBb g1⟩, by simp [intOf]; omega⟩
      · go_simp
        have hwrB : B ≤ wr.drew.heap.size := by show B ≤ wr.heap.size; omega
        refine hK.out _ _ ⟨(Blk.drew hst).alloc _, hbl.drew.alloc hwrB _⟩ (fun hHeldb => ?_)
        clear hK K
        try simp only [Act.put, List.setIfInBounds_toArray, List.set_cons_zero, List.set_cons_succ]
        have hbz := Blk.new wr.drew zeroS.cs 27
        refine wpAnyH_ready (rs := [6]) (by kernel_rfl) (by simp) ?_
        refine AllReadyH.cons (o := ?oi6b) ?hi6b (fun K hK => ?_) AllReadyH.nil
        case hi6b => simp only [List.getElem?_toArray, List.getElem?_cons_succ, List.getElem?_cons_zero]; rfl
        go_simp
        refine (cm.out _).mono ?_
        rintro e w4 ⟨rfl, hb4⟩
        have hb4 : Below (wr.drew.alloc (.cells zeroS.cs 27)).heap.size (wr.drew.alloc (.cells zeroS.cs 27)) w4 := hb4
        have hz4 := hb4.size
        rw [World.size_alloc] at hz4
        have hS4 : Blk w4 b6 g.cs 27 ∧ Below B w w4 := ⟨Below.blk hb4 ((Blk.drew hst).alloc _) (by rw [World.size_alloc]; show b6 < wr.heap.size + 1; omega), (hbl.drew.alloc hwrB _).trans (hb4.mono (by rw [World.size_alloc]; show B ≤ wr.heap.size + 1; omega))⟩
        have hbz4 : Blk w4 wr.heap.size zeroS.cs 27 := Below.blk hb4 hbz (by rw [World.size_alloc]; exact Nat.lt_succ_self _)
        refine hK.out _ _ hS4 (fun hHeld4 => ?_)
        clear hK K
        try simp only [Act.put, List.setIfInBounds_toArray, List.set_cons_zero, List.set_cons_succ]
        refine wpAnyH_take (i := 7) (oi := ?oi7b) (v := ?v7b) ?hi7b (by kernel_rfl) (by kernel_rfl) (by kernel_rfl) ?hQ7b (Or.inl ⟨?hw7b, ?hy7b⟩) hHeld4 ?rest7b
        case hi7b => simp only [List.getElem?_toArray, List.getElem?_cons_succ, List.getElem?_cons_zero]; rfl
        case hQ7b => exact fun _ _ _ h => h
        case hw7b => rfl
        case hy7b => (intro w hSw; go_simp; try rfl)
        simp only [Act.put, List.setIfInBounds_toArray, List.set_cons_zero, List.set_cons_succ]
        refine wpAnyH_take (i := 8) (oi := ?oi8b) (v := ?v8b) ?hi8b (by kernel_rfl) (by kernel_rfl) (by kernel_rfl) ?hQ8b (Or.inl ⟨?hw8b, ?hy8b⟩) hHeld4 ?rest8b
        case hi8b => simp only [List.getElem?_toArray, List.getElem?_cons_succ, List.getElem?_cons_zero]; rfl
        case hQ8b => exact fun _ _ _ h => h
        case hw8b => rfl
        case hy8b => (intro w hSw; go_simp; try rfl)
        simp only [Act.put, List.setIfInBounds_toArray, List.set_cons_zero, List.set_cons_succ]
        refine wpAnyH_take (i := 9) (oi := ?oi9b) (v := ?v9b) ?hi9b (by kernel_rfl) (by kernel_rfl) (by kernel_rfl) ?hQ9b (Or.inl ⟨?hw9b, ?hy9b⟩) hHeld4 ?rest9b
        case hi9b => simp only [List.getElem?_toArray, List.getElem?_cons_succ, List.getElem?_cons_zero]; rfl
        case hQ9b => exact fun _ _ _ h => h
        case hw9b => rfl
        case hy9b => (intro w hSw; go_simp; try rfl)
        simp only [Act.put, List.setIfInBounds_toArray, List.set_cons_zero, List.set_cons_succ]
        have e8 := hbz4.eight
        have f8 := hbz4.free
        have hS8 : Blk (put8 w4 wr.heap.size g1) b6 g.cs 27 ∧ Below B w (put8 w4 wr.heap.size g1) := ⟨put8_other hS4.1 (by omega) g1, put8_below hS4.2 (by omega) g1⟩
        have hb8 := put8_blk hbz4 g1
        refine wpAnyH_ready (rs := [11]) (by kernel_rfl) (by simp) ?_
        refine AllReadyH.cons (o := ?oi11b) ?hi11b (fun K hK => ?_) AllReadyH.nil
        case hi11b => simp only [List.getElem?_toArray, List.getElem?_cons_succ, List.getElem?_cons_zero]; rfl
        go_simp
        refine hK.out _ _ hS8 (fun hHeldb11 => ?_)
        clear hK K
        try simp only [Act.put, List.setIfInBounds_toArray, List.set_cons_zero, List.set_cons_succ]
        refine wpAnyH_take (i := 12) (oi := ?oi12b) (v := ?v12b) ?hi12b (by kernel_rfl) (by kernel_rfl) (by kernel_rfl) ?hQ12b (Or.inl ⟨?hw12b, ?hy12b⟩) hHeldb11 ?rest12b
        case hi12b => simp only [List.getElem?_toArray, List.getElem?_cons_succ, List.getElem?_cons_zero]; rfl
        case hQ12b => exact fun _ _ _ h => h
        case hw12b => rfl
        case hy12b => (intro w hSw; go_simp; try rfl)
        simp only [Act.put, List.setIfInBounds_toArray, List.set_cons_zero, List.set_cons_succ]
        refine wpAnyH_done (by kernel_rfl) ?_ _
        have hb66 := hS8.1
        have hbl6 := hS8.2
        clear hHeld4 hHeldb11 hHeldb hS4 hS8 hb4 hHeld hx e8 f8 hbz hbz4
        change Exit.then _ _ _ _ (put8 w4 wr.heap.size g1)
        generalize put8 w4 wr.heap.size g1 = W8 at *
        generalize wr.heap.size = b8 at *
        have e8 := hb8.eight
        have e6 := hb66.eight
        have fr := hb66.free
        have HB6 := Lib.hid hb66
        have HBL := Lib.hid hbl6
        clear hb8 hb66 hbl6
        go_wp2_with fail
        have hpo2 := hp.out
        exact ⟨⟨p + 64, g1, by go_num, ⟨by omega, by omega⟩, HS, put8_blk HB6.out g1, put8_below HBL.out hBb g1⟩, by simp [intOf]; omega⟩
    · have hgr : g = r := by
        obtain ⟨k, hk, hl⟩ := hto.out
        rw [← Lib.size_eq] at hl
        obtain rfl : k = 0 := by omega
        exact hk
      subst hgr
      obtain ⟨D, hD⟩ : ∃ D : ByteArray, D = ⟨g.out.toArray⟩ := ⟨_, rfl⟩
      have hDs : D.size = 32 := by rw [hD, size_mk]; rfl
      have cs := CS.out
      rw [← hD] at cs
      have CS2 := Lib.hid cs
      have HD := Lib.hid hD
      have hbb := hst.lt
      clear cs hD hto HT
      go_wp2_with fail
      refine (CS2.out _).mono ?_
      rintro e w6 ⟨rfl, hb6⟩
      have hst6 := Below.blk hb6 hst hst.lt
      have hbl6 := hbl.trans (hb6.mono (by omega))
      clear hst hbl hb6
      go_wp2_with fail
      go_loopw [11] (fun i wr => ∃ j : Nat, j ≤ 8 ∧ i = .int .i64 j ∧ Blk wr b6 g.cs 27 ∧ Below B w wr) (fun i _ => 8 - (intOf i).toNat)
      case atStart => exact ⟨0, by omega, by go_num, hst6, hbl6⟩
      case round =>
        clear hst6 hbl6
        obtain ⟨j, hj, rfl, hst, hbl⟩ := hrel
        have e8 := hst.eight
        have HST := Lib.hid hst
        have HBL := Lib.hid hbl
        clear hst hbl
        have hj8 : j = 0 ∨ j = 1 ∨ j = 2 ∨ j = 3 ∨ j = 4 ∨ j = 5 ∨ j = 6 ∨ j = 7 ∨ j = 8 := by omega
        rcases hj8 with rfl | rfl | rfl | rfl | rfl | rfl | rfl | rfl | rfl
        · go_wp2_with fail
          go_quiet (fail)
          go_wp2_with fail
          · rename_i hne
            obtain ⟨e0, e1, e2, e3⟩ := dig0 g D HD.out hDs
            rw [e0, e1, e2, e3, bne_iff_ne] at hne
            have hlt := g.a.toNat_lt
            exact absurd (by omega) hne
          · exact ⟨⟨1, by omega, rfl, HST.out.drewN _, ⟨HBL.out.os, HBL.out.tape, HBL.out.output, HBL.out.size, HBL.out.block⟩⟩, by simp [intOf]⟩
        · go_wp2_with fail
          go_quiet (fail)
          go_wp2_with fail
          · rename_i hne
            obtain ⟨e0, e1, e2, e3⟩ := dig1 g D HD.out hDs
            rw [e0, e1, e2, e3, bne_iff_ne] at hne
            have hlt := g.b.toNat_lt
            exact absurd (by omega) hne
          · exact ⟨⟨2, by omega, rfl, HST.out.drewN _, ⟨HBL.out.os, HBL.out.tape, HBL.out.output, HBL.out.size, HBL.out.block⟩⟩, by simp [intOf]⟩
        · go_wp2_with fail
          go_quiet (fail)
          go_wp2_with fail
          · rename_i hne
            obtain ⟨e0, e1, e2, e3⟩ := dig2 g D HD.out hDs
            rw [e0, e1, e2, e3, bne_iff_ne] at hne
            have hlt := g.c.toNat_lt
            exact absurd (by omega) hne
          · exact ⟨⟨3, by omega, rfl, HST.out.drewN _, ⟨HBL.out.os, HBL.out.tape, HBL.out.output, HBL.out.size, HBL.out.block⟩⟩, by simp [intOf]⟩
        · go_wp2_with fail
          go_quiet (fail)
          go_wp2_with fail
          · rename_i hne
            obtain ⟨e0, e1, e2, e3⟩ := dig3 g D HD.out hDs
            rw [e0, e1, e2, e3, bne_iff_ne] at hne
            have hlt := g.d.toNat_lt
            exact absurd (by omega) hne
          · exact ⟨⟨4, by omega, rfl, HST.out.drewN _, ⟨HBL.out.os, HBL.out.tape, HBL.out.output, HBL.out.size, HBL.out.block⟩⟩, by simp [intOf]⟩
        · go_wp2_with fail
          go_quiet (fail)
          go_wp2_with fail
          · rename_i hne
            obtain ⟨e0, e1, e2, e3⟩ := dig4 g D HD.out hDs
            rw [e0, e1, e2, e3, bne_iff_ne] at hne
            have hlt := g.e.toNat_lt
            exact absurd (by omega) hne
          · exact ⟨⟨5, by omega, rfl, HST.out.drewN _, ⟨HBL.out.os, HBL.out.tape, HBL.out.output, HBL.out.size, HBL.out.block⟩⟩, by simp [intOf]⟩
        · go_wp2_with fail
          go_quiet (fail)
          go_wp2_with fail
          · rename_i hne
            obtain ⟨e0, e1, e2, e3⟩ := dig5 g D HD.out hDs
            rw [e0, e1, e2, e3, bne_iff_ne] at hne
            have hlt := g.f.toNat_lt
            exact absurd (by omega) hne
          · exact ⟨⟨6, by omega, rfl, HST.out.drewN _, ⟨HBL.out.os, HBL.out.tape, HBL.out.output, HBL.out.size, HBL.out.block⟩⟩, by simp [intOf]⟩
        · go_wp2_with fail
          go_quiet (fail)
          go_wp2_with fail
          · rename_i hne
            obtain ⟨e0, e1, e2, e3⟩ := dig6 g D HD.out hDs
            rw [e0, e1, e2, e3, bne_iff_ne] at hne
            have hlt := g.g.toNat_lt
            exact absurd (by omega) hne
          · exact ⟨⟨7, by omega, rfl, HST.out.drewN _, ⟨HBL.out.os, HBL.out.tape, HBL.out.output, HBL.out.size, HBL.out.block⟩⟩, by simp [intOf]⟩
        · go_wp2_with fail
          go_quiet (fail)
          go_wp2_with fail
          · rename_i hne
            obtain ⟨e0, e1, e2, e3⟩ := dig7 g D HD.out hDs
            rw [e0, e1, e2, e3, bne_iff_ne] at hne
            have hlt := g.h.toNat_lt
            exact absurd (by omega) hne
          · exact ⟨⟨8, by omega, rfl, HST.out.drewN _, ⟨HBL.out.os, HBL.out.tape, HBL.out.output, HBL.out.size, HBL.out.block⟩⟩, by simp [intOf]⟩
        · go_wp2_with fail
          go_returns
          exact ⟨rfl, by rw [HB.out]; exact HBL.out⟩

theorem sha_chain (s : ByteArray) (w : World) (h0 : s.size ≤ maxLen) : Calls Try.prog 7 #[.string s] w fun e w' => e = .returned (.bool true) ∧ Below w.heap.size w w' := by
  by_cases h : s.size ≤ 700
  · exact sha_chain_ok s w h
  · exact sha_chain_over s w (by simp; omega)
end Go.Proofs.Ytekcehicjggmiaa
