/- The walk of the document's fraction. -/
import Derived.Test.YtemfecdpjegocaaShaFracPlain
import Derived.Test.YtemfecdpjegocaaShaProduct
namespace Go.Proofs.Ytemfecdpjegocaa
open Go.RowKit Go.Shelf
set_option linter.unusedVariables false
set_option linter.unusedSimpArgs false

theorem dC_three (y : Nat) (a b c : Int) (ha : a = ((y % 65536 : Nat) : Int)) (hb : b = ((y / 65536 % 65536 : Nat) : Int)) (hc : c = ((y / 4294967296 : Nat) : Int)) :
    (#[.int .u64 a, .int .u64 b, .int .u64 c] : Array Value) = dC (dig3 y) := by
  subst ha; subst hb; subst hc; rfl
theorem ref_product3 (a b : List Nat) (la lb ba bb : Nat) (w : World) (hA : Blk w ba (dC a) 106) (hB : Blk w bb (dC b) 106) (ha : ∀ d ∈ a, d < 65536) (hb : ∀ d ∈ b, d < 65536) (hla : a.length = la) (hlb : b.length = lb) (h8 : la ≤ 8) (h9 : lb ≤ 8) :
    Calls Try.prog 65 #[.slice (some ⟨ba, 0, none⟩) la la, .slice (some ⟨bb, 0, none⟩) lb lb] w fun e w' =>
      ∃ bo o, e = .returned (.slice (some ⟨bo, 0, none⟩) (la + lb) (la + lb)) ∧ w.heap.size ≤ bo ∧ Digs w' bo (la + lb) (valD a * valD b) o ∧ Below w.heap.size w w' := by
  subst hla; subst hlb
  exact ref_product a b ba bb w hA hB ha hb h8 h9

set_option maxRecDepth 100000 in
set_option maxHeartbeats 1000000 in
theorem ref_frac2 (p : Nat) (hp : p < 4294967296) (w : World) :
    Calls Try.prog 49 #[.int .u64 p, .int .i64 2] w fun e w' => e = .returned (.int .u32 (fracN p 2 : Nat)) ∧ Below w.heap.size w w' := by
  have F0 := FracInv.start p 2
  obtain ⟨R, hR⟩ : ∃ R, R = fracGo p 2 36 34359738368 0 := ⟨_, rfl⟩
  have hres : fracN p 2 = R % 4294967296 := by rw [hR]; rfl
  rw [hres]
  rw [← hR] at F0
  have HF0 := Lib.hid F0
  clear hres hR F0
  obtain ⟨B, hB⟩ : ∃ B, w.heap.size = B := ⟨_, rfl⟩
  have HB := Lib.hid hB
  rw [hB]
  clear hB
  go_enter Try.func49, Try.ntmps49
  go_wp2_with fail
  go_loopw [5, 6] (fun xv bv wr => ∃ (n x bit : Nat), xv = .int .u64 x ∧ bv = .int .u64 bit ∧ x + 2 * bit ≤ 68719476736 ∧ Hid (FracInv p 2 n bit x R) ∧ Below B w wr ∧ B ≤ wr.heap.size) (fun _ bv _ => (intOf bv).toNat)
  case atStart => exact ⟨36, 0, 34359738368, rfl, rfl, by omega, HF0, HB.out ▸ Below.refl _ _, Nat.le_of_eq HB.out.symm⟩
  case round =>
    obtain ⟨n, x, bit, rfl, rfl, hx, hF, hb, hBr⟩ := hrel
    by_cases c : 0 < bit
    · go_upto_region 7 with fail
      have hy : x + bit < 68719476736 := by omega
      have hdl := dig3_lt (x + bit) hy
      have hdv := dig3_val (x + bit)
      rw [dC_three (x + bit) _ _ _ (by omega) (by omega) (by omega)]
      have hd3 : (dig3 (x + bit)).length = 3 := rfl
      refine wp_gen (fun W => Blk W wr.heap.size (dC (dig3 (x + bit))) 106 ∧ Below B w W) ⟨Blk.new wr _ _, hb.alloc hBr _⟩ ?_
      obtain ⟨D, hD⟩ : ∃ D, D = dig3 (x + bit) := ⟨_, rfl⟩
      rw [← hD] at hdl hdv hd3 ⊢
      have HDL := Lib.hid hdl
      have HDV := Lib.hid hdv
      have HD3 := Lib.hid hd3
      generalize wr.heap.size = bd at *
      clear hD hb hdl hdv hd3 wr
      rintro wr ⟨hk, hb⟩
      have hbd := hk.lt
      have HK := Lib.hid hk
      have HBL := Lib.hid hb
      clear hk hb
      go_wp2_with fail
      refine (ref_product3 D D 3 3 bd bd _ HK.out HK.out HDL.out HDL.out HD3.out HD3.out (by decide) (by decide)).mono ?_
      rintro e w1 ⟨bp, o, rfl, hbp, hDg, hb1⟩
      have hK1 := Below.blk hb1 HK.out hbd
      have hB1 := HBL.out.trans (hb1.mono (by omega))
      rw [HDV.out] at hDg
      have hs1 := hb1.size
      have HK := Lib.hid hK1
      have HBL := Lib.hid hB1
      have HDG := Lib.hid hDg
      clear hK1 hB1 hDg hb1
      go_wp2_with fail
      go_loopw [10, 11] (fun hv iv wr => ∃ (k whole : Nat), hv = .int .u64 whole ∧ iv = .int .i64 ((k : Int) - 1) ∧ k ≤ 6 ∧ 4 ≤ k ∧ Hid (Gathered o k whole) ∧ Hid (Digs wr bp 6 ((x + bit) * (x + bit)) o) ∧ Below B w wr ∧ B ≤ wr.heap.size) (fun _ iv _ => (intOf iv).toNat)
      case atStart => exact ⟨6, 0, rfl, by go_num, by omega, by omega, Gathered.start o 6 HDG.out.len, HDG, HBL.out, by omega⟩
      case round =>
        clear HDG HBL
        obtain ⟨k, whole, rfl, rfl, hk, hk4, hG, hDg, hb, hBw⟩ := hrel
        by_cases ck : 4 < k
        · obtain ⟨j, rfl⟩ : ∃ j, k = j + 1 := ⟨k - 1, by omega⟩
          have hwl := hG.out.lt hDg.out.dig (by rw [hDg.out.len]; omega)
          obtain ⟨d, hd⟩ : ∃ d, d = o.getD j 0 := ⟨_, rfl⟩
          have hd0 : d < 65536 := hd ▸ getD_lt hDg.out.dig j
          have g0 : wr.cell? ⟨bp, j, none⟩ = some (.int .u64 (d : Int)) := by rw [hDg.out.blk.cell, dC_get _ _ (by rw [hDg.out.len]; omega), hd]
          have HDE := Lib.hid hd
          clear hd
          have e1 : ((j + 1 : Nat) : Int) - 1 = (j : Int) := by omega
          rw [e1]
          go_wp2_with fail
          exact ⟨⟨j, whole * 65536 + d, by go_num, by go_num, by omega, by omega, hG.out.step (by rw [hDg.out.len]; omega) HDE.out, hDg, hb, hBw⟩, by simp [intOf]; omega⟩
        · obtain rfl : k = 4 := by omega
          have hwh := hG.out.done2 hDg.out.dig hDg.out.len hDg.out.val
          clear hG hDg
          by_cases cp : whole < p
          · obtain ⟨m, hm⟩ := hF.out.yes c hwh cp
            have HM := Lib.hid hm
            clear hm hwh
            go_wp2_with fail
            exact ⟨⟨m, x + bit, bit / 2, by go_num, by go_num, by omega, HM, hb, hBw⟩, by simp [intOf]; omega⟩
          · obtain ⟨m, hm⟩ := hF.out.no c hwh cp
            have HM := Lib.hid hm
            clear hm hwh
            go_wp2_with fail
            exact ⟨⟨m, x, bit / 2, by go_num, by go_num, by omega, HM, hb, hBw⟩, by simp [intOf]; omega⟩
    · obtain rfl : bit = 0 := by omega
      obtain rfl := hF.out.done
      go_wp2_with fail
      go_returns
      exact ⟨by simp, hb⟩

set_option maxRecDepth 100000 in
set_option maxHeartbeats 1000000 in
theorem ref_frac3 (p : Nat) (hp : p < 4294967296) (w : World) :
    Calls Try.prog 49 #[.int .u64 p, .int .i64 3] w fun e w' => e = .returned (.int .u32 (fracN p 3 : Nat)) ∧ Below w.heap.size w w' := by
  have F0 := FracInv.start p 3
  obtain ⟨R, hR⟩ : ∃ R, R = fracGo p 3 36 34359738368 0 := ⟨_, rfl⟩
  have hres : fracN p 3 = R % 4294967296 := by rw [hR]; rfl
  rw [hres]
  rw [← hR] at F0
  have HF0 := Lib.hid F0
  clear hres hR F0
  obtain ⟨B, hB⟩ : ∃ B, w.heap.size = B := ⟨_, rfl⟩
  have HB := Lib.hid hB
  rw [hB]
  clear hB
  go_enter Try.func49, Try.ntmps49
  go_wp2_with fail
  go_loopw [5, 6] (fun xv bv wr => ∃ (n x bit : Nat), xv = .int .u64 x ∧ bv = .int .u64 bit ∧ x + 2 * bit ≤ 68719476736 ∧ Hid (FracInv p 3 n bit x R) ∧ Below B w wr ∧ B ≤ wr.heap.size) (fun _ bv _ => (intOf bv).toNat)
  case atStart => exact ⟨36, 0, 34359738368, rfl, rfl, by omega, HF0, HB.out ▸ Below.refl _ _, Nat.le_of_eq HB.out.symm⟩
  case round =>
    obtain ⟨n, x, bit, rfl, rfl, hx, hF, hb, hBr⟩ := hrel
    by_cases c : 0 < bit
    · go_upto_region 7 with fail
      have hy : x + bit < 68719476736 := by omega
      have hdl := dig3_lt (x + bit) hy
      have hdv := dig3_val (x + bit)
      rw [dC_three (x + bit) _ _ _ (by omega) (by omega) (by omega)]
      have hd3 : (dig3 (x + bit)).length = 3 := rfl
      refine wp_gen (fun W => Blk W wr.heap.size (dC (dig3 (x + bit))) 106 ∧ Below B w W) ⟨Blk.new wr _ _, hb.alloc hBr _⟩ ?_
      obtain ⟨D, hD⟩ : ∃ D, D = dig3 (x + bit) := ⟨_, rfl⟩
      rw [← hD] at hdl hdv hd3 ⊢
      have HDL := Lib.hid hdl
      have HDV := Lib.hid hdv
      have HD3 := Lib.hid hd3
      generalize wr.heap.size = bd at *
      clear hD hb hdl hdv hd3 wr
      rintro wr ⟨hk, hb⟩
      have hbd := hk.lt
      have HK := Lib.hid hk
      have HBL := Lib.hid hb
      clear hk hb
      go_wp2_with fail
      refine (ref_product3 D D 3 3 bd bd _ HK.out HK.out HDL.out HDL.out HD3.out HD3.out (by decide) (by decide)).mono ?_
      rintro e w1 ⟨bp, o, rfl, hbp, hDg, hb1⟩
      have hK1 := Below.blk hb1 HK.out hbd
      have hB1 := HBL.out.trans (hb1.mono (by omega))
      rw [HDV.out] at hDg
      have hs1 := hb1.size
      have HK := Lib.hid hK1
      have HBL := Lib.hid hB1
      have HDG := Lib.hid hDg
      clear hK1 hB1 hDg hb1
      go_wp2_with fail
      refine (ref_product3 o D 6 3 bp bd _ HDG.out.blk HK.out HDG.out.dig HDL.out HDG.out.len HD3.out (by decide) (by decide)).mono ?_
      rintro e w2 ⟨bp2, o2, rfl, hbq, hDg, hb2⟩
      have hB1 := HBL.out.trans (hb2.mono (by omega))
      rw [HDV.out, HDG.out.val] at hDg
      have hs2 := hb2.size
      have HBL := Lib.hid hB1
      clear HDG
      have HDG := Lib.hid hDg
      clear hB1 hDg hb2
      go_wp2_with fail
      go_loopw [10, 11] (fun hv iv wr => ∃ (k whole : Nat), hv = .int .u64 whole ∧ iv = .int .i64 ((k : Int) - 1) ∧ k ≤ 9 ∧ 6 ≤ k ∧ Hid (Gathered o2 k whole) ∧ Hid (Digs wr bp2 9 ((x + bit) * (x + bit) * (x + bit)) o2) ∧ Below B w wr ∧ B ≤ wr.heap.size) (fun _ iv _ => (intOf iv).toNat)
      case atStart => exact ⟨9, 0, rfl, by go_num, by omega, by omega, Gathered.start o2 9 HDG.out.len, HDG, HBL.out, by omega⟩
      case round =>
        clear HDG HBL
        obtain ⟨k, whole, rfl, rfl, hk, hk4, hG, hDg, hb, hBw⟩ := hrel
        by_cases ck : 6 < k
        · obtain ⟨j, rfl⟩ : ∃ j, k = j + 1 := ⟨k - 1, by omega⟩
          have hwl := hG.out.lt hDg.out.dig (by rw [hDg.out.len]; omega)
          obtain ⟨d, hd⟩ : ∃ d, d = o2.getD j 0 := ⟨_, rfl⟩
          have hd0 : d < 65536 := hd ▸ getD_lt hDg.out.dig j
          have g0 : wr.cell? ⟨bp2, j, none⟩ = some (.int .u64 (d : Int)) := by rw [hDg.out.blk.cell, dC_get _ _ (by rw [hDg.out.len]; omega), hd]
          have HDE := Lib.hid hd
          clear hd
          have e1 : ((j + 1 : Nat) : Int) - 1 = (j : Int) := by omega
          rw [e1]
          go_wp2_with fail
          exact ⟨⟨j, whole * 65536 + d, by go_num, by go_num, by omega, by omega, hG.out.step (by rw [hDg.out.len]; omega) HDE.out, hDg, hb, hBw⟩, by simp [intOf]; omega⟩
        · obtain rfl : k = 6 := by omega
          have hwh := hG.out.done3 hDg.out.dig hDg.out.len hDg.out.val
          clear hG hDg
          by_cases cp : whole < p
          · obtain ⟨m, hm⟩ := hF.out.yes c hwh cp
            have HM := Lib.hid hm
            clear hm hwh
            go_wp2_with fail
            exact ⟨⟨m, x + bit, bit / 2, by go_num, by go_num, by omega, HM, hb, hBw⟩, by simp [intOf]; omega⟩
          · obtain ⟨m, hm⟩ := hF.out.no c hwh cp
            have HM := Lib.hid hm
            clear hm hwh
            go_wp2_with fail
            exact ⟨⟨m, x, bit / 2, by go_num, by go_num, by omega, HM, hb, hBw⟩, by simp [intOf]; omega⟩
    · obtain rfl : bit = 0 := by omega
      obtain rfl := hF.out.done
      go_wp2_with fail
      go_returns
      exact ⟨by simp, hb⟩
end Go.Proofs.Ytemfecdpjegocaa
