/- The walk of the document's Digest. -/
import Derived.Test.YtemfecdpjegocaaShaDocMix
import Derived.Test.YtemfecdpjegocaaShaSum
import Derived.Test.YtemfecdpjegocaaShaRefPad
namespace Go.Proofs.Ytemfecdpjegocaa
open Go.RowKit Go.Shelf
set_option linter.unusedVariables false
set_option linter.unusedSimpArgs false

/-- What the digest calls. -/
structure SumAt (L : List Nat) (mx : S8 → List UInt8 → S8) (f0 : S8) : Prop where
  len : L.length = 72
  first : ∀ j, j < 8 → (kA L)[64 + j]? = some (.int .u32 ((f0.get j).toNat : Int))
  mix : ∀ (st : S8) (s : ByteArray) (w : World), s.size = 64 → Calls Try.prog 67 #[.agg (kA L), .agg st.cs, .string s] w fun e w' => e = .returned (.agg (mx st s.data.toList).cs) ∧ Below w.heap.size w w'
theorem keyN_length : keyN.length = 72 := keyG_length _ _ _
theorem sum_at : SumAt keyN mixN firstS where
  len := keyN_length
  first j h := by
    rw [kA_get _ _ (by rw [keyN_length]; omega), keyN_is, List.getD_eq_getElem?_getD, List.getElem?_append_right (by simp), List.length_map, List.length_range, show 64 + j - 64 = j by omega]
    have : j = 0 ∨ j = 1 ∨ j = 2 ∨ j = 3 ∨ j = 4 ∨ j = 5 ∨ j = 6 ∨ j = 7 := by omega
    rcases this with rfl | rfl | rfl | rfl | rfl | rfl | rfl | rfl <;> rfl
  mix st s w h := ref_mix st s w h

theorem out_cells' (x : UInt32) (a b c d : Int) (ha : a = (x.toNat : Int) / 16777216 % 256) (hb : b = (x.toNat : Int) / 65536 % 256) (hc : c = (x.toNat : Int) / 256 % 256) (hd : d = (x.toNat : Int) % 256) :
    [Value.int .u8 a, .int .u8 b, .int .u8 c, .int .u8 d] = bcells (outN x) := by
  subst ha; subst hb; subst hc; subst hd; exact out_cells x

theorem ext_head64 (S : ByteArray) : (S.extract 0 64).data.toList = S.data.toList.take 64 := by
  rw [Lib.extract_data]; simp
theorem ext_tail64 (S : ByteArray) : (S.extract 64 S.size).data.toList = S.data.toList.drop 64 := by
  rw [Lib.extract_data, List.take_of_length_le (by rw [List.length_drop, ← Lib.size_eq]; exact Nat.le_refl _)]

set_option maxRecDepth 100000 in
set_option maxHeartbeats 2000000 in
theorem ref_sumG (L : List Nat) (mx : S8 → List UInt8 → S8) (f0 : S8) (hS : SumAt L mx f0) (s : ByteArray) (w : World) (hs : s.size ≤ 100000) (r : S8) (hr : ToMixG mx (s.data.toList ++ padN s.size) 0 f0 r) :
    Calls Try.prog 50 #[.agg (kA L), .string s] w fun e w' => e = .returned (.string ⟨r.out.toArray⟩) ∧ Below w.heap.size w w' := by
  have hfst : ∀ j, j < 8 → (kA L)[64 + j]? = some (.int .u32 ((f0.get j).toNat : Int)) := hS.first
  have hksz : (kA L).size = 72 := by rw [kA_size, hS.len]
  have HS := Lib.hid hS
  obtain ⟨B, hB⟩ : ∃ B, w.heap.size = B := ⟨_, rfl⟩
  obtain ⟨KA, hKA⟩ : ∃ KA, KA = kA L := ⟨_, rfl⟩
  rw [← hKA] at hfst hksz
  have hmix := hS.mix
  rw [← hKA] at hmix ⊢
  have HMIX := Lib.hid hmix
  have HKS := Lib.hid hksz
  have cp := Lib.hid (fun w => ref_pad s.size w (by omega))
  have hpl := padN_length s.size
  obtain ⟨PB, hPB⟩ : ∃ PB : ByteArray, PB = ⟨(padN s.size).toArray⟩ := ⟨_, rfl⟩
  have hPs : PB.size ≤ 72 := by rw [hPB, size_mk]; omega
  have hTB : (s ++ PB).data.toList = s.data.toList ++ padN s.size := by rw [hPB]; simp
  rw [← hTB] at hr
  rw [← hPB] at cp
  have HR := Lib.hid hr
  have h8 : (Blk (w.alloc (.cells KA 47)) B KA 47) := hB ▸ Blk.new w KA _
  have hbl : Below B w (w.alloc (.cells KA 47)) := (Below.refl _ _).alloc (by omega) _
  have H8 := Lib.hid (And.intro h8 hbl)
  have HF := Lib.hid hfst
  have HB := Lib.hid hB
  rw [hB]
  clear hS hfst hksz hr hKA hmix hPB hTB hpl h8 hbl
  go_enter Try.func50, Try.ntmps50
  go_wp2_with fail
  refine (cp.out _).mono ?_
  rintro e w1 ⟨rfl, hb1⟩
  have hlt := H8.out.1.lt
  have hk1 := Below.blk hb1 H8.out.1 hlt
  have hB1 := H8.out.2.trans (hb1.mono (by omega))
  have hfst := HF.out
  have c0 : w1.cell? ⟨B, 64, none⟩ = some (.int .u32 (f0.a.toNat : Int)) := (hk1.cell _).trans (hfst 0 (by omega))
  have c1 : w1.cell? ⟨B, 65, none⟩ = some (.int .u32 (f0.b.toNat : Int)) := (hk1.cell _).trans (hfst 1 (by omega))
  have c2 : w1.cell? ⟨B, 66, none⟩ = some (.int .u32 (f0.c.toNat : Int)) := (hk1.cell _).trans (hfst 2 (by omega))
  have c3 : w1.cell? ⟨B, 67, none⟩ = some (.int .u32 (f0.d.toNat : Int)) := (hk1.cell _).trans (hfst 3 (by omega))
  have c4 : w1.cell? ⟨B, 68, none⟩ = some (.int .u32 (f0.e.toNat : Int)) := (hk1.cell _).trans (hfst 4 (by omega))
  have c5 : w1.cell? ⟨B, 69, none⟩ = some (.int .u32 (f0.f.toNat : Int)) := (hk1.cell _).trans (hfst 5 (by omega))
  have c6 : w1.cell? ⟨B, 70, none⟩ = some (.int .u32 (f0.g.toNat : Int)) := (hk1.cell _).trans (hfst 6 (by omega))
  have c7 : w1.cell? ⟨B, 71, none⟩ = some (.int .u32 (f0.h.toNat : Int)) := (hk1.cell _).trans (hfst 7 (by omega))
  have hBlt : B < w1.heap.size := hk1.lt
  have H9 := Lib.hid (And.intro (hk1.alloc (.cells f0.cs 45)) (And.intro (Blk.new w1 f0.cs 45) (hB1.alloc (by omega) (.cells f0.cs 45))))
  clear hk1 hB1 hfst H8 HF HS hb1 hlt
  go_upto_region 3 with fail
  have h9 := H9.out
  have hsz2 : (s ++ PB).size ≤ 100100 := by rw [ByteArray.size_append]; omega
  clear c0 c1 c2 c3 c4 c5 c6 c7 H9 cp
  generalize s ++ PB = S at *
  obtain ⟨b5, hb5⟩ : ∃ b, w1.heap.size = b := ⟨_, rfl⟩
  rw [hb5] at h9 hBlt ⊢
  refine wp_gen (fun W => Blk W B KA 47 ∧ Blk W b5 f0.cs 45 ∧ Below B w W) h9 ?_
  clear h9 hb5 w1
  rintro w1 ⟨hk, hv, hbl⟩
  have H1 := Lib.hid (And.intro hk (And.intro hv hbl))
  clear hk hv hbl
  go_wp2_with fail
  go_loopw [1] (fun sv wr => ∃ (S : ByteArray) (g : S8), sv = .string S ∧ S.size ≤ 100100 ∧ Hid (ToMixG mx S.data.toList 0 g r) ∧ Hid (Blk wr B KA 47 ∧ Blk wr b5 g.cs 45 ∧ Below B w wr)) (fun sv _ => szOf sv)
  case atStart => exact ⟨S, f0, rfl, hsz2, HR, H1⟩
  case round =>
    clear HR H1 hsz2 w1
    obtain ⟨S, g, rfl, hS, hto, hH⟩ := hrel
    have hb5lt : b5 < wr.heap.size := hH.out.2.1.lt
    by_cases c : 0 < S.size
    · have h64 : 64 ≤ S.size := by
        obtain ⟨k, hk, hl⟩ := hto.out
        rw [← Lib.size_eq] at hl
        omega
      have hstep := (hto.out.step (by rw [← Lib.size_eq]; omega)).drop
      rw [List.drop_zero, ← ext_head64, Nat.zero_add, ← ext_tail64] at hstep
      have hsz : (S.extract 0 64).size = 64 := by rw [ByteArray.size_extract]; omega
      have cm := Lib.hid (fun w => HMIX.out g (S.extract 0 64) w hsz)
      generalize mx g (S.extract 0 64).data.toList = g1 at cm hstep
      have HST := Lib.hid hstep
      have e8x := fun (x : Fut wr) => (Below.blk x.is hH.out.2.1 hb5lt).eight
      have hkx : Hid (∀ W, (∃ x : Fut wr, W = x.at_) → Blk W B KA 47) := by
        rintro _ ⟨x, rfl⟩
        exact Below.blk x.is hH.out.1 (by omega)
      clear hstep hsz
      go_upto_region 4 with fail
      refine wp_region_after_tail 5 (by kernel_rfl) (by kernel_rfl) ?_
      simp only [List.take_succ_cons, List.take_zero, List.drop_succ_cons, List.drop_zero]
      go_big_quiet_want
      refine quiet_load_row 47 (.tmp 2) rfl B rfl _ KA _ hkx.out Try.underlying47 rfl (by rw [HKS.out]; exact (zero_of_info (P := Try.prog) key_info).2) ?_
      go_big_quiet_on
      simp only [Act.put, Array.set!_eq_setIfInBounds, List.setIfInBounds_toArray, List.set_cons_zero, List.set_cons_succ]
      unfold S8.cs at cm
      repeat (go_big_quiet_step ((exact Calls.after (cm.out _))))
      refine wpQuiet_nil ?_
      intro x
      have hst1 := Below.blk x.is hH.out.2.1 hb5lt
      have hkk1 := Below.blk x.is hH.out.1 (by omega)
      have hbl1 := hH.out.2.2.trans (x.is.mono (by omega))
      have e8 := hst1.eight
      have fr := hst1.free
      have H1 := Lib.hid (And.intro (put8_other hkk1 (show B ≠ b5 by omega) g1) (And.intro (put8_blk hst1 g1) (put8_below hbl1 (show B ≤ b5 by omega) g1)))
      clear hst1 hbl1 hkk1 e8x hkx hH cm hto
      obtain ⟨wx, hwx⟩ := x
      simp only at *
      go_wp2_with fail
      refine ⟨⟨S.extract 64 S.size, g1, rfl, by rw [ByteArray.size_extract]; omega, HST, H1⟩, ?_⟩
      show (S.extract 64 S.size).size < S.size
      rw [ByteArray.size_extract]; omega
    · have hS0 : S.size = 0 := by omega
      obtain rfl : g = r := hto.out.done (by rw [← Lib.size_eq]; omega)
      clear hto
      have hHv := hH.out.2.1
      have hHb := hH.out.2.2
      have HV := Lib.hid hHv
      have HBL := Lib.hid hHb
      clear hH hHv hHb
      have hBb : B ≤ b5 := by omega
      go_wp2_with fail
      go_loopw [6, 7] (fun v i wr => ∃ j : Nat, j ≤ 8 ∧ i = .int .i64 j ∧ OwnB wr (b5 + 1) 5 v (outK g j) ∧ Hid (Blk wr b5 g.cs 45) ∧ Hid (Below B w wr) ∧ b5 < wr.heap.size) (fun _ i _ => 8 - (intOf i).toNat)
      case atStart => exact ⟨0, by omega, rfl, OwnB.nil _ _ _, HV, HBL, hb5lt⟩
      case round =>
        clear HV HBL hb5lt
        obtain ⟨j, hj, rfl, hown, hv, hbl, hb5lt⟩ := hrel
        by_cases cj : j < 8
        · have g0 : wr.cell? ⟨b5, j, none⟩ = some (.int .u32 ((g.get j).toNat : Int)) := (hv.out.cell _).trans (cs_get g j cj)
          have hx := (g.get j).toNat_lt
          have hoj : outK g (j + 1) = outK g j ++ outN (g.get j) := rfl
          have hol : (outK g j).length ≤ 32 := by
            have : ∀ n, (outK g n).length = 4 * n := by
              intro n
              induction n with
              | zero => rfl
              | succ n ih => rw [outK, List.length_append, ih]; show 4 * n + 4 = _; omega
            rw [this]; omega
          generalize g.get j = x at *
          have HOJ := Lib.hid hoj
          clear hoj
          go_wp2_with (at_builtin; refine append_bytes bts rfl (.tmp 33) (.tmp 48) rfl (b5 + 1) _ _ (outN x) 4 rfl wr _ (out_cells' x _ _ _ _ (by omega) (by omega) (by omega) (by omega)) rfl hown rfl (by omega) (by omega) ?_; intro v' w' hown' hb' hsz')
          go_roundw
          case rel => exact ⟨j + 1, by omega, by go_num, by rw [HOJ.out]; exact hown', Below.blk hb' hv.out (by omega), hbl.out.trans (hb'.mono (by omega)), by omega⟩
          case measure => simp [intOf]; omega
        · obtain rfl : j = 8 := by omega
          have hst := hown.string bts
          go_wp2_with fail
          go_returns
          exact ⟨by rw [outK_all]; rfl, hbl.out⟩

theorem ref_sum (s : ByteArray) (w : World) (hs : s.size ≤ 100000) :
    Calls Try.prog 50 #[.agg (kA keyN), .string s] w fun e w' => e = .returned (.string ⟨(sumN s.data.toList).toArray⟩) ∧ Below w.heap.size w w' := by
  have hl : s.data.toList.length = s.size := rfl
  have h := ref_sumG keyN mixN firstS sum_at s w hs _ (ToMixG.start mixN (s.data.toList ++ padN s.size) firstS (by rw [List.length_append, hl, padN_length]; omega))
  exact h
end Go.Proofs.Ytemfecdpjegocaa
