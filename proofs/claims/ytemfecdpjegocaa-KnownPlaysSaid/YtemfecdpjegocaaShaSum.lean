/- sha.Sum. -/
import Derived.Test.YtemfecdpjegocaaShaPad
import Derived.Test.YtemfecdpjegocaaTail
import Derived.Lib.Strings
namespace Go.Proofs.Ytemfecdpjegocaa
open Go.RowKit Go.Shelf
set_option linter.unusedVariables false
set_option linter.unusedSimpArgs false

/-- What is still to be mixed: p bytes of L have been. -/
def ToMixG (mix : S8 → List UInt8 → S8) (L : List UInt8) (p : Nat) (s : S8) (r : S8) : Prop := ∃ k, chainG mix (L.drop p) k s = r ∧ p + 64 * k = L.length
theorem ToMixG.step {mix : S8 → List UInt8 → S8} {L : List UInt8} {p : Nat} {s r : S8} (h : ToMixG mix L p s r) (hp : p + 64 ≤ L.length) : ToMixG mix L (p + 64) (mix s ((L.drop p).take 64)) r := by
  obtain ⟨k, hk, hl⟩ := h
  obtain ⟨j, rfl⟩ : ∃ j, k = j + 1 := ⟨k - 1, by omega⟩
  rw [chainG_step, List.drop_drop] at hk
  exact ⟨j, hk, by omega⟩
theorem ToMixG.done {mix : S8 → List UInt8 → S8} {L : List UInt8} {p : Nat} {s r : S8} (h : ToMixG mix L p s r) (hp : L.length ≤ p) : s = r := by
  obtain ⟨k, hk, hl⟩ := h
  obtain rfl : k = 0 := by omega
  exact hk
theorem ToMixG.drop {mix : S8 → List UInt8 → S8} {L : List UInt8} {p : Nat} {s r : S8} (h : ToMixG mix L p s r) : ToMixG mix (L.drop p) 0 s r := by
  obtain ⟨k, hk, hl⟩ := h
  exact ⟨k, hk, by rw [List.length_drop]; omega⟩
def ToMix (L : List UInt8) (p : Nat) (s : S8) (r : S8) : Prop := ToMixG mixN L p s r
theorem ToMixG.start (mix : S8 → List UInt8 → S8) (L : List UInt8) (s : S8) (h : L.length % 64 = 0) : ToMixG mix L 0 s (chainG mix L (L.length / 64) s) := ⟨L.length / 64, rfl, by omega⟩
theorem ToMix.start (L : List UInt8) (s : S8) (h : L.length % 64 = 0) : ToMix L 0 s (chainN L (L.length / 64) s) := ToMixG.start mixN L s h
theorem ToMix.step {L : List UInt8} {p : Nat} {s r : S8} (h : ToMix L p s r) (hp : p + 64 ≤ L.length) : ToMix L (p + 64) (mixN s ((L.drop p).take 64)) r := ToMixG.step h hp
theorem ToMix.done {L : List UInt8} {p : Nat} {s r : S8} (h : ToMix L p s r) (hp : L.length ≤ p) : s = r := ToMixG.done h hp
theorem ToMix.drop {L : List UInt8} {p : Nat} {s r : S8} (h : ToMix L p s r) : ToMix (L.drop p) 0 s r := ToMixG.drop h
theorem take_of_left {l m : List UInt8} {p : Nat} (h : p + 64 ≤ l.length) : ((l ++ m).drop p).take 64 = (l.drop p).take 64 := by
  rw [List.drop_append_of_le_length (by omega), List.take_append_of_le_length (by rw [List.length_drop]; omega)]
theorem ext_list (s : ByteArray) (p : Nat) : (s.extract p (p + 64)).data.toList = (s.data.toList.drop p).take 64 := by
  rw [Lib.extract_data]; congr 1; omega

def outK (r : S8) : Nat → List UInt8
  | 0 => []
  | k + 1 => outK r k ++ outN (r.get k)
theorem outK_all (r : S8) : r.out = outK r 8 := by simp [outK, S8.out, S8.get]
theorem out_cells (x : UInt32) : [Value.int .u8 ((x.toNat : Int) / 16777216 % 256), .int .u8 ((x.toNat : Int) / 65536 % 256), .int .u8 ((x.toNat : Int) / 256 % 256), .int .u8 ((x.toNat : Int) % 256)] = bcells (outN x) := by
  unfold bcells outN
  have e : ∀ m : Nat, ((UInt8.ofNat (m % 256)).toNat : Int) = (m : Int) % 256 := fun m => by rw [u8_ofNat _ (Nat.mod_lt _ (by decide))]; omega
  simp only [List.map_cons, List.map_nil, e, Int.natCast_ediv]
  rfl

set_option maxRecDepth 100000 in
set_option maxHeartbeats 4000000 in
theorem sha_sum (s : ByteArray) (w : World) (hs : s.size ≤ 100000) :
    Calls Try.prog 64 #[.string s] w fun e w' => e = .returned (.string ⟨(sumN s.data.toList).toArray⟩) ∧ Below w.heap.size w w' := by
  obtain ⟨B, hB⟩ : ∃ B, w.heap.size = B := ⟨_, rfl⟩
  have HB := Lib.hid hB
  rw [hB]
  clear hB
  obtain ⟨l, hl⟩ : ∃ l, l = s.data.toList := ⟨_, rfl⟩
  have hll : l.length = s.size := by rw [hl]; rfl
  obtain ⟨r, hr⟩ : ∃ r, r = chainN (l ++ padN l.length) ((l ++ padN l.length).length / 64) firstS := ⟨_, rfl⟩
  have hsum : sumN s.data.toList = r.out := by rw [hr, hl]; rfl
  rw [hsum]
  have hto0 : ToMix (l ++ padN l.length) 0 firstS r := by
    rw [hr]
    refine ToMix.start _ _ ?_
    rw [List.length_append, padN_length]; omega
  have HTO := Lib.hid hto0
  have HL := Lib.hid hl
  have HLL := Lib.hid hll
  clear hsum hr hto0 hl hll
  obtain ⟨q, hq⟩ : ∃ q, q = s.size / 64 := ⟨_, rfl⟩
  have hwh : Hid (((s.size : Int) - (s.size : Int) % 64) = ((64 * q : Nat) : Int)) := by unfold Hid; omega
  have hq2 : 64 * q ≤ s.size ∧ s.size < 64 * q + 64 := by omega
  clear hq
  have HQ := Lib.hid hq2
  clear hq2
  have c1 := Lib.hid (fun w => sha_first w)
  generalize firstS = g0 at *
  go_enter Try.func64, Try.ntmps64
  go_wp2_with fail
  refine (c1.out _).mono ?_
  rintro e w1 ⟨rfl, hb1⟩
  unfold S8.cs
  go_upto_region 3 with fail
  rw [hwh.out]
  have hBw := HB.out
  obtain ⟨b3, hb3⟩ : ∃ b, w1.heap.size = b := ⟨_, rfl⟩
  have hBb : B ≤ b3 := by have := hb1.size; omega
  refine wp_gen (fun W => Blk W b3 g0.cs 45 ∧ Below B w W) ⟨hb3 ▸ Blk.new w1 g0.cs _, (hBw ▸ hb1).alloc (by omega) _⟩ ?_
  rw [hb3]
  clear hb1 hb3 hBw w1
  rintro W ⟨hst, hbl⟩
  go_wp2_with fail
  go_loopw [5] (fun i wr => ∃ (p : Nat) (g : S8), i = .int .i64 p ∧ Hid (p ≤ 64 * q ∧ p % 64 = 0) ∧ Hid (ToMix (l ++ padN l.length) p g r) ∧ Blk wr b3 g.cs 45 ∧ Below B w wr) (fun i _ => 64 * q - (intOf i).toNat)
  case atStart => exact ⟨0, g0, rfl, ⟨by omega, by omega⟩, HTO, hst, hbl⟩
  case round =>
    obtain ⟨p, g, rfl, hp, hto, hst, hbl⟩ := hrel
    by_cases hlt : p < 64 * q
    · have hp64 : p + 64 ≤ s.size := by have h1 := hp.out; have h2 := HQ.out; omega
      have hx := fun (x : Fut wr) => (Below.blk x.is hst hst.lt).eight
      go_upto_region 6 with fail
      refine wp_region_after_tail 7 (by kernel_rfl) (by kernel_rfl) ?_
      simp only [List.take_succ_cons, List.take_zero, List.drop_succ_cons, List.drop_zero]
      have hsz : (s.extract p (p + 64)).size = 64 := by rw [ByteArray.size_extract]; omega
      have cm := Lib.hid (fun w => sha_mix g (s.extract p (p + 64)) w hsz)
      have hstep := hto.out.step (by rw [List.length_append, HLL.out]; omega)
      have hgg : ((l ++ padN l.length).drop p).take 64 = (s.extract p (p + 64)).data.toList := by rw [take_of_left (by rw [HLL.out]; omega), ext_list, HL.out]
      rw [hgg] at hstep
      clear hgg
      generalize mixN g (s.extract p (p + 64)).data.toList = g1 at cm hstep
      have HS := Lib.hid hstep
      clear hstep
      clear hsz
      unfold S8.cs at cm
      repeat (go_big_quiet_step ((exact Calls.after (cm.out _))))
      refine wpQuiet_nil ?_
      intro x
      have hst1 := Below.blk x.is hst hst.lt
      have hbl1 := hbl.trans (x.is.mono (by have := hst.lt; omega))
      have e8 := hst1.eight
      have fr := hst1.free
      have HB1 := Lib.hid hbl1
      have HS1 := Lib.hid hst1
      clear hst1 hbl1 hx hst hbl cm
      obtain ⟨wx, hwx⟩ := x
      simp only at *
      go_wp2_with fail
      have hpo := hp.out
      exact ⟨⟨p + 64, g1, by go_num, ⟨by omega, by omega⟩, HS, put8_blk HS1.out g1, put8_below HB1.out hBb g1⟩, by simp [intOf]; omega⟩
    · obtain rfl : p = 64 * q := by have := hp.out; omega
      have cp := Lib.hid (fun w => sha_pad s.size w (by omega))
      have hpl := padN_length s.size
      have hto2 := hto.out.drop
      rw [List.drop_append_of_le_length (by rw [HLL.out]; exact HQ.out.1)] at hto2
      rw [HLL.out] at hto2
      generalize padN s.size = Pd at *
      have hLd : (s.extract (64 * q) s.size ++ ⟨Pd.toArray⟩).data.toList = l.drop (64 * q) ++ Pd := by
        rw [HL.out]
        simp only [ByteArray.data_append, Array.toList_append, Lib.extract_data]
        rw [List.take_of_length_le (by rw [List.length_drop, ← Lib.size_eq]; omega)]
      rw [← hLd] at hto2
      have hRs : (s.extract (64 * q) s.size ++ ⟨Pd.toArray⟩).size = s.size - 64 * q + Pd.length := by
        have := size_mk Pd
        have := HQ.out
        rw [ByteArray.size_append, ByteArray.size_extract]; omega
      have hPs : (⟨Pd.toArray⟩ : ByteArray).size ≤ 72 := by rw [size_mk]; omega
      have hR2 : (s.extract (64 * q) s.size ++ ⟨Pd.toArray⟩).size ≤ 200 := by have := HQ.out; rw [hRs]; have := size_mk Pd; omega
      have HR2 := Lib.hid hR2
      clear hR2
      have HT2 := Lib.hid hto2
      have HRS := Lib.hid hRs
      have hql := HQ.out
      have hwr := hst.lt
      clear hto2 hLd hRs hpl
      go_wp2_with fail
      refine (cp.out _).mono ?_
      rintro e w5 ⟨rfl, hb5⟩
      go_upto_region 9 with fail
      · rename_i hbad
        have := size_mk Pd
        exact absurd hbad (by omega)
      have hB5 := hbl.trans (hb5.mono (by omega))
      have hst5 := Below.blk hb5 hst hst.lt
      clear cp hb5 hst hbl hwr hPs
      generalize s.extract (64 * q) s.size ++ ⟨Pd.toArray⟩ = R at *
      clear HRS
      have hR2 := HR2.out
      refine wp_gen (fun W => Blk W b3 g.cs 45 ∧ Below B w W) ⟨hst5, hB5⟩ ?_
      clear hst5 hB5 w5
      rintro w5 ⟨hst5, hB5⟩
      go_wp2_with fail
      go_loopw [9] (fun i wr => ∃ (p : Nat) (g : S8), i = .int .i64 p ∧ Hid (p ≤ R.size) ∧ Hid (ToMix R.data.toList p g r) ∧ Blk wr b3 g.cs 45 ∧ Below B w wr) (fun i _ => R.size - (intOf i).toNat)
      case atStart => exact ⟨0, g, rfl, Nat.zero_le _, HT2, hst5, hB5⟩
      case round =>
        clear hst5 hB5 HT2 hto hp hlt g
        obtain ⟨p, g, rfl, hp, hto, hst, hbl⟩ := hrel
        have hpo : p ≤ 200 := Nat.le_trans hp.out hR2
        by_cases hlt : p + 64 ≤ R.size
        · have hx := fun (x : Fut wr) => (Below.blk x.is hst hst.lt).eight
          go_upto_region 12 with fail
          refine wp_region_after_tail 7 (by kernel_rfl) (by kernel_rfl) ?_
          simp only [List.take_succ_cons, List.take_zero, List.drop_succ_cons, List.drop_zero]
          have hsz : (R.extract p (p + 64)).size = 64 := by rw [ByteArray.size_extract]; omega
          have cm := Lib.hid (fun w => sha_mix g (R.extract p (p + 64)) w hsz)
          have hstep := hto.out.step (by rw [← Lib.size_eq]; omega)
          rw [← ext_list] at hstep
          generalize mixN g (R.extract p (p + 64)).data.toList = g1 at cm hstep
          have HS := Lib.hid hstep
          clear hstep hsz
          unfold S8.cs at cm
          repeat (go_big_quiet_step ((exact Calls.after (cm.out _))))
          refine wpQuiet_nil ?_
          intro x
          have hst1 := Below.blk x.is hst hst.lt
          have hbl1 := hbl.trans (x.is.mono (by have := hst.lt; omega))
          have e8 := hst1.eight
          have fr := hst1.free
          have HB1 := Lib.hid hbl1
          have HS1 := Lib.hid hst1
          clear hst1 hbl1 hx hst hbl cm
          obtain ⟨wx, hwx⟩ := x
          simp only at *
          go_wp2_with fail
          exact ⟨⟨p + 64, g1, by go_num, hlt, HS, put8_blk HS1.out g1, put8_below HB1.out hBb g1⟩, by simp [intOf]; omega⟩
        · have hgr : g = r := by
            obtain ⟨k, hk, hl⟩ := hto.out
            rw [← Lib.size_eq] at hl
            obtain rfl : k = 0 := by omega
            exact hk
          clear hto
          subst hgr
          have e8 := hst.eight
          have hm := make_pad 0 32 0 32 rfl rfl (by decide) (by decide) wr
          have hbls := hst.lt
          have HBL := Lib.hid hbl
          have HST := Lib.hid hst
          clear hst hbl
          go_upto_region 14 with fail
          refine wp_gen (fun W => OwnB W B 5 (.slice (some ⟨wr.heap.size, 0, none⟩) 0 32) (outK g 0) ∧ Below B w W ∧ Blk W b3 g.cs 45) ⟨OwnB.made wr B _ _ 32 (by omega) (by decide) (by rw [size_madeCells]), HBL.out.alloc (by omega) _, HST.out.alloc _⟩ ?_
          clear hm e8 HBL HST
          generalize wr.heap.size = bo at *
          clear wr
          rintro wr ⟨hown, hbl, hst⟩
          have e8 := hst.eight
          have hb3 := hst.lt
          clear hst
          go_wp2_with fail
          clear e8
          go_loopw [10, 59] (fun v i wr => ∃ j : Nat, j ≤ 8 ∧ i = .int .i64 j ∧ OwnB wr B 5 v (outK g j) ∧ Below B w wr ∧ B ≤ wr.heap.size) (fun _ i _ => 8 - (intOf i).toNat)
          case atStart => exact ⟨0, by omega, rfl, hown, hbl, by omega⟩
          case round =>
            clear hown hbl
            obtain ⟨j, hj, rfl, hown, hbl, hBr⟩ := hrel
            have hj8 : j = 0 ∨ j = 1 ∨ j = 2 ∨ j = 3 ∨ j = 4 ∨ j = 5 ∨ j = 6 ∨ j = 7 ∨ j = 8 := by omega
            rcases hj8 with rfl | rfl | rfl | rfl | rfl | rfl | rfl | rfl | rfl
            · have hx : ∀ w', (Instr.index 45 (.agg #[.int .u32 (g.a.toNat : Int), .int .u32 (g.b.toNat : Int), .int .u32 (g.c.toNat : Int), .int .u32 (g.d.toNat : Int), .int .u32 (g.e.toNat : Int), .int .u32 (g.f.toNat : Int), .int .u32 (g.g.toNat : Int), .int .u32 (g.h.toNat : Int)]) (.int .i64 0)).run Try.prog w' = .ok (.int .u32 (g.a.toNat : Int)) w' := fun _ => rfl
              go_wp2_with (at_builtin; refine append_bytes bts rfl (.tmp 62) (.tmp 74) rfl B _ _ (outN g.a) 4 rfl wr _ (out_cells g.a) rfl hown rfl (by simp [outK, outN]) hBr ?_; intro v' w' hown' hb' hsz')
              go_roundw
              case rel => exact ⟨1, by omega, by go_num, hown', hbl.trans hb', by omega⟩
              case measure => simp [intOf]
            · have hx : ∀ w', (Instr.index 45 (.agg #[.int .u32 (g.a.toNat : Int), .int .u32 (g.b.toNat : Int), .int .u32 (g.c.toNat : Int), .int .u32 (g.d.toNat : Int), .int .u32 (g.e.toNat : Int), .int .u32 (g.f.toNat : Int), .int .u32 (g.g.toNat : Int), .int .u32 (g.h.toNat : Int)]) (.int .i64 1)).run Try.prog w' = .ok (.int .u32 (g.b.toNat : Int)) w' := fun _ => rfl
              go_wp2_with (at_builtin; refine append_bytes bts rfl (.tmp 62) (.tmp 74) rfl B _ _ (outN g.b) 4 rfl wr _ (out_cells g.b) rfl hown rfl (by simp [outK, outN]) hBr ?_; intro v' w' hown' hb' hsz')
              go_roundw
              case rel => exact ⟨2, by omega, by go_num, hown', hbl.trans hb', by omega⟩
              case measure => simp [intOf]
            · have hx : ∀ w', (Instr.index 45 (.agg #[.int .u32 (g.a.toNat : Int), .int .u32 (g.b.toNat : Int), .int .u32 (g.c.toNat : Int), .int .u32 (g.d.toNat : Int), .int .u32 (g.e.toNat : Int), .int .u32 (g.f.toNat : Int), .int .u32 (g.g.toNat : Int), .int .u32 (g.h.toNat : Int)]) (.int .i64 2)).run Try.prog w' = .ok (.int .u32 (g.c.toNat : Int)) w' := fun _ => rfl
              go_wp2_with (at_builtin; refine append_bytes bts rfl (.tmp 62) (.tmp 74) rfl B _ _ (outN g.c) 4 rfl wr _ (out_cells g.c) rfl hown rfl (by simp [outK, outN]) hBr ?_; intro v' w' hown' hb' hsz')
              go_roundw
              case rel => exact ⟨3, by omega, by go_num, hown', hbl.trans hb', by omega⟩
              case measure => simp [intOf]
            · have hx : ∀ w', (Instr.index 45 (.agg #[.int .u32 (g.a.toNat : Int), .int .u32 (g.b.toNat : Int), .int .u32 (g.c.toNat : Int), .int .u32 (g.d.toNat : Int), .int .u32 (g.e.toNat : Int), .int .u32 (g.f.toNat : Int), .int .u32 (g.g.toNat : Int), .int .u32 (g.h.toNat : Int)]) (.int .i64 3)).run Try.prog w' = .ok (.int .u32 (g.d.toNat : Int)) w' := fun _ => rfl
              go_wp2_with (at_builtin; refine append_bytes bts rfl (.tmp 62) (.tmp 74) rfl B _ _ (outN g.d) 4 rfl wr _ (out_cells g.d) rfl hown rfl (by simp [outK, outN]) hBr ?_; intro v' w' hown' hb' hsz')
              go_roundw
              case rel => exact ⟨4, by omega, by go_num, hown', hbl.trans hb', by omega⟩
              case measure => simp [intOf]
            · have hx : ∀ w', (Instr.index 45 (.agg #[.int .u32 (g.a.toNat : Int), .int .u32 (g.b.toNat : Int), .int .u32 (g.c.toNat : Int), .int .u32 (g.d.toNat : Int), .int .u32 (g.e.toNat : Int), .int .u32 (g.f.toNat : Int), .int .u32 (g.g.toNat : Int), .int .u32 (g.h.toNat : Int)]) (.int .i64 4)).run Try.prog w' = .ok (.int .u32 (g.e.toNat : Int)) w' := fun _ => rfl
              go_wp2_with (at_builtin; refine append_bytes bts rfl (.tmp 62) (.tmp 74) rfl B _ _ (outN g.e) 4 rfl wr _ (out_cells g.e) rfl hown rfl (by simp [outK, outN]) hBr ?_; intro v' w' hown' hb' hsz')
              go_roundw
              case rel => exact ⟨5, by omega, by go_num, hown', hbl.trans hb', by omega⟩
              case measure => simp [intOf]
            · have hx : ∀ w', (Instr.index 45 (.agg #[.int .u32 (g.a.toNat : Int), .int .u32 (g.b.toNat : Int), .int .u32 (g.c.toNat : Int), .int .u32 (g.d.toNat : Int), .int .u32 (g.e.toNat : Int), .int .u32 (g.f.toNat : Int), .int .u32 (g.g.toNat : Int), .int .u32 (g.h.toNat : Int)]) (.int .i64 5)).run Try.prog w' = .ok (.int .u32 (g.f.toNat : Int)) w' := fun _ => rfl
              go_wp2_with (at_builtin; refine append_bytes bts rfl (.tmp 62) (.tmp 74) rfl B _ _ (outN g.f) 4 rfl wr _ (out_cells g.f) rfl hown rfl (by simp [outK, outN]) hBr ?_; intro v' w' hown' hb' hsz')
              go_roundw
              case rel => exact ⟨6, by omega, by go_num, hown', hbl.trans hb', by omega⟩
              case measure => simp [intOf]
            · have hx : ∀ w', (Instr.index 45 (.agg #[.int .u32 (g.a.toNat : Int), .int .u32 (g.b.toNat : Int), .int .u32 (g.c.toNat : Int), .int .u32 (g.d.toNat : Int), .int .u32 (g.e.toNat : Int), .int .u32 (g.f.toNat : Int), .int .u32 (g.g.toNat : Int), .int .u32 (g.h.toNat : Int)]) (.int .i64 6)).run Try.prog w' = .ok (.int .u32 (g.g.toNat : Int)) w' := fun _ => rfl
              go_wp2_with (at_builtin; refine append_bytes bts rfl (.tmp 62) (.tmp 74) rfl B _ _ (outN g.g) 4 rfl wr _ (out_cells g.g) rfl hown rfl (by simp [outK, outN]) hBr ?_; intro v' w' hown' hb' hsz')
              go_roundw
              case rel => exact ⟨7, by omega, by go_num, hown', hbl.trans hb', by omega⟩
              case measure => simp [intOf]
            · have hx : ∀ w', (Instr.index 45 (.agg #[.int .u32 (g.a.toNat : Int), .int .u32 (g.b.toNat : Int), .int .u32 (g.c.toNat : Int), .int .u32 (g.d.toNat : Int), .int .u32 (g.e.toNat : Int), .int .u32 (g.f.toNat : Int), .int .u32 (g.g.toNat : Int), .int .u32 (g.h.toNat : Int)]) (.int .i64 7)).run Try.prog w' = .ok (.int .u32 (g.h.toNat : Int)) w' := fun _ => rfl
              go_wp2_with (at_builtin; refine append_bytes bts rfl (.tmp 62) (.tmp 74) rfl B _ _ (outN g.h) 4 rfl wr _ (out_cells g.h) rfl hown rfl (by simp [outK, outN]) hBr ?_; intro v' w' hown' hb' hsz')
              go_roundw
              case rel => exact ⟨8, by omega, by go_num, hown', hbl.trans hb', by omega⟩
              case measure => simp [intOf]
            · have hst := hown.string bts
              go_wp2_with fail
              go_returns
              exact ⟨by rw [outK_all]; rfl, hbl⟩
end Go.Proofs.Ytemfecdpjegocaa
