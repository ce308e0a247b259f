/- sha.Pad. -/
import Derived.Test.YtemfecdpjegocaaShaTop
import Derived.OwnWalk
namespace Go.Proofs.Ytemfecdpjegocaa
open Go.RowKit Go.Shelf
set_option linter.unusedVariables false
set_option linter.unusedSimpArgs false

theorem info_u8 : ∃ i, Try.prog.info? 5 = some i ∧ i.zero = some (.int .u8 0) ∧ i.size = 1 ∧ i.bytes = 1 := by
  obtain ⟨i0, hi, hz0, hz1, hz2⟩ := info_parts bts.hi
  exact ⟨i0, hi, hz0, hz1, hz2⟩
theorem make_pad (m c : Nat) (L C : Int) (hL : L = m) (hC : C = c) (hmc : m ≤ c) (hc : c ≤ 1000) (w : World) : (Instr.makeSlice 39 (.int .i64 L) (.int .i64 C)).run Try.prog w =
    .ok (.slice (some ⟨w.heap.size, 0, none⟩) m c) (w.alloc (.cells (madeCells #[.int .u8 0] c) 5)) := by
  subst hL hC
  obtain ⟨i, hi, hz, hs, hb⟩ := info_u8
  have hr := run_make (P := Try.prog) w 39 5 i (.int .u8 0) bts.ht hi hz .i64 .i64 (m : Int) (c : Int) (by omega) (by omega) (by rw [hb]; omega) (by omega)
  simpa [hs, Value.cells] using hr

theorem padN_length (n : Nat) : (padN n).length = 9 + (64 - (n + 9) % 64) % 64 := by
  unfold padN; simp; omega

set_option maxRecDepth 100000 in
theorem sha_pad_bad (n : Int) (w : World) (hn : n < 0 ∨ 1099511627776 < n) :
    Calls Try.prog 81 #[.int .i64 n] w fun e w' => e = .returned (.tuple #[.string ⟨#[]⟩, .int .i64 1]) ∧ w = w' := by
  rcases (show n < 0 ∨ 0 ≤ n by omega) with h | h
  · have h0 : decide (n < 0) = true := by simp [h]
    clear hn h
    go_enter Try.func81, Try.ntmps81
    go_wp2_with fail
    go_returns
    exact ⟨rfl, rfl⟩
  · have h0 : decide (n < 0) = false := by simp; omega
    have h1 : decide (1099511627776 < n) = true := by simp; omega
    clear hn h
    go_enter Try.func81, Try.ntmps81
    go_wp2_with fail
    go_returns
    exact ⟨rfl, rfl⟩

def tailB (n i : Nat) : List UInt8 := (List.range i).map fun j => UInt8.ofNat (n * 8 / 256 ^ (7 - j) % 256)
theorem tailB_step (n i : Nat) (l : List UInt8) : l ++ tailB n (i + 1) = (l ++ tailB n i) ++ [UInt8.ofNat (n * 8 / 256 ^ (7 - i) % 256)] := by
  unfold tailB
  rw [List.range_succ, List.map_append, List.append_assoc]; rfl
def headB (k : Nat) : List UInt8 := 128 :: List.replicate k 0
theorem padN_eq (n : Nat) : padN n = headB ((64 - (n + 9) % 64) % 64) ++ tailB n 8 := rfl

set_option maxRecDepth 100000 in
set_option maxHeartbeats 4000000 in
theorem sha_pad (n : Nat) (w : World) (hn : n ≤ 1099511627776) :
    Calls Try.prog 81 #[.int .i64 n] w fun e w' => e = .returned (.tuple #[.string ⟨(padN n).toArray⟩, .int .i64 0]) ∧ Below w.heap.size w w' := by
  have h0 : decide ((n : Int) < 0) = false := by simp
  have h1 : decide (1099511627776 < (n : Int)) = false := by simp; omega
  have hp := Lib.hid (padN_eq n)
  generalize padN n = Pn at *
  obtain ⟨k, hk⟩ : ∃ k, k = (64 - (n + 9) % 64) % 64 := ⟨_, rfl⟩
  rw [← hk] at hp
  have hk64 : k < 64 := by omega
  have hm := make_pad (k + 1) (k + 9) (1 + -(((n : Int) + 9) % 64) % 64) (1 + -(((n : Int) + 9) % 64) % 64 + 8) (by omega) (by omega) (by omega) (by omega) w
  have HN := Lib.hid hn
  clear hk
  obtain ⟨B, hB⟩ : ∃ B, w.heap.size = B := ⟨_, rfl⟩
  have HB := Lib.hid hB
  clear hB
  go_enter Try.func81, Try.ntmps81
  go_upto_region 5 with fail
  have hB := HB.out
  rw [hB]
  refine wp_gen (fun W => W.ownsRow B 5 1 (.slice (some ⟨B, 0, none⟩) (k + 1) (k + 9)) (k + 1) (bcells (List.replicate (k + 1) 0)) ∧ Below B w W) ?_ ?_
  · have hB0 := Nat.le_of_eq hB.symm
    refine ⟨⟨by simp, .inr ⟨B, k + 9, madeCells #[.int .u8 0] (k + 9), rfl, Nat.le_refl _, ?_, by omega, by unfold maxLen; omega, by rw [size_madeCells, Nat.mul_one], ?_⟩⟩, (Below.refl _ _).alloc hB0 _⟩
    · rw [← hB]; exact World.alloc_heap_new w _
    · rw [toList_madeCells_one]
      simp [bcells, List.take_replicate, List.map_replicate]
  rintro W ⟨hown, hbl⟩
  have hc0 : W.cell? ⟨B, 0, none⟩ = some (.int .u8 0) := by rw [hown.cellAt 0 (by omega)]; simp [bcells, List.replicate_succ]
  have hf0 := hown.frozenAt 0
  have hst := (hown.stored 0 (.int .u8 128)).1
  have hbl1 := hbl.setCell (p := ⟨B, 0, none⟩) (Nat.le_refl _) (.int .u8 128)
  clear hm hbl hB
  have H1 := Lib.hid (And.intro hst hbl1)
  clear hst hbl1 hown
  go_upto_region 6 with fail
  refine wp_gen (fun W => OwnB W B 5 (.slice (some ⟨B, 0, none⟩) (k + 1) (k + 9)) (headB k ++ tailB n 0) ∧ Below B w W) ⟨?_, H1.out.2⟩ ?_
  · have := H1.out.1
    unfold OwnB
    have e : headB k ++ tailB n 0 = headB k := by unfold tailB; simp
    rw [e]
    have e2 : (headB k).length = k + 1 := by unfold headB; simp
    rw [e2]
    have e3 : bcells (headB k) = (bcells (List.replicate (k + 1) 0)).set 0 (.int .u8 128) := by unfold headB bcells; simp [List.replicate_succ]
    rw [e3]; exact this
  clear H1 hc0 hf0 W
  rintro W ⟨hown, hbl⟩
  have hhl : (headB k).length = k + 1 := by unfold headB; simp
  generalize headB k = hd at *
  generalize (1 + -(((n : Int) + 9) % 64) % 64 + 8) = z1
  generalize (1 + -(((n : Int) + 9) % 64) % 64) = z2
  generalize (64 - ((n : Int) + 9) % 64) % 64 = z3
  generalize 64 - ((n : Int) + 9) % 64 = z4
  generalize ((n : Int) + 9) % 64 = z5
  generalize (n : Int) + 9 = z6
  go_wp2_with fail
  go_loopw [5, 26] (fun v i wr => ∃ j : Nat, j ≤ 8 ∧ i = .int .i64 j ∧ OwnB wr B 5 v (hd ++ tailB n j) ∧ Below B w wr) (fun _ i _ => 8 - (intOf i).toNat)
  case atStart => exact ⟨0, by omega, rfl, hown, hbl⟩
  case round =>
    obtain ⟨j, hj, rfl, hown, hbl⟩ := hrel
    have hBr : B ≤ wr.heap.size := by have := hbl.size; have := HB.out; omega
    have hN := HN.out
    have hj8 : j = 0 ∨ j = 1 ∨ j = 2 ∨ j = 3 ∨ j = 4 ∨ j = 5 ∨ j = 6 ∨ j = 7 ∨ j = 8 := by omega
    rcases hj8 with rfl | rfl | rfl | rfl | rfl | rfl | rfl | rfl | rfl
    · go_wp2_with (at_builtin; refine append_bytes bts rfl (.tmp 29) (.tmp 38) rfl B _ _ [UInt8.ofNat (n * 8 / 256 ^ 7 % 256)] 1 rfl wr _ (lit1 (n := n * 8 / 256 ^ 7 % 256) (by omega) (Nat.mod_lt _ (by decide))) rfl hown rfl (by simp [tailB]; omega) hBr ?_; intro v' w' hown' hb' hsz')
      go_roundw
      case rel => exact ⟨1, by omega, by go_num, by rw [tailB_step] ; exact hown', hbl.trans hb'⟩
      case measure => simp [intOf]
    · go_wp2_with (at_builtin; refine append_bytes bts rfl (.tmp 29) (.tmp 38) rfl B _ _ [UInt8.ofNat (n * 8 / 256 ^ 6 % 256)] 1 rfl wr _ (lit1 (n := n * 8 / 256 ^ 6 % 256) (by omega) (Nat.mod_lt _ (by decide))) rfl hown rfl (by simp [tailB]; omega) hBr ?_; intro v' w' hown' hb' hsz')
      go_roundw
      case rel => exact ⟨2, by omega, by go_num, by rw [tailB_step] ; exact hown', hbl.trans hb'⟩
      case measure => simp [intOf]
    · go_wp2_with (at_builtin; refine append_bytes bts rfl (.tmp 29) (.tmp 38) rfl B _ _ [UInt8.ofNat (n * 8 / 256 ^ 5 % 256)] 1 rfl wr _ (lit1 (n := n * 8 / 256 ^ 5 % 256) (by omega) (Nat.mod_lt _ (by decide))) rfl hown rfl (by simp [tailB]; omega) hBr ?_; intro v' w' hown' hb' hsz')
      go_roundw
      case rel => exact ⟨3, by omega, by go_num, by rw [tailB_step] ; exact hown', hbl.trans hb'⟩
      case measure => simp [intOf]
    · go_wp2_with (at_builtin; refine append_bytes bts rfl (.tmp 29) (.tmp 38) rfl B _ _ [UInt8.ofNat (n * 8 / 256 ^ 4 % 256)] 1 rfl wr _ (lit1 (n := n * 8 / 256 ^ 4 % 256) (by omega) (Nat.mod_lt _ (by decide))) rfl hown rfl (by simp [tailB]; omega) hBr ?_; intro v' w' hown' hb' hsz')
      go_roundw
      case rel => exact ⟨4, by omega, by go_num, by rw [tailB_step] ; exact hown', hbl.trans hb'⟩
      case measure => simp [intOf]
    · go_wp2_with (at_builtin; refine append_bytes bts rfl (.tmp 29) (.tmp 38) rfl B _ _ [UInt8.ofNat (n * 8 / 256 ^ 3 % 256)] 1 rfl wr _ (lit1 (n := n * 8 / 256 ^ 3 % 256) (by omega) (Nat.mod_lt _ (by decide))) rfl hown rfl (by simp [tailB]; omega) hBr ?_; intro v' w' hown' hb' hsz')
      go_roundw
      case rel => exact ⟨5, by omega, by go_num, by rw [tailB_step] ; exact hown', hbl.trans hb'⟩
      case measure => simp [intOf]
    · go_wp2_with (at_builtin; refine append_bytes bts rfl (.tmp 29) (.tmp 38) rfl B _ _ [UInt8.ofNat (n * 8 / 256 ^ 2 % 256)] 1 rfl wr _ (lit1 (n := n * 8 / 256 ^ 2 % 256) (by omega) (Nat.mod_lt _ (by decide))) rfl hown rfl (by simp [tailB]; omega) hBr ?_; intro v' w' hown' hb' hsz')
      go_roundw
      case rel => exact ⟨6, by omega, by go_num, by rw [tailB_step] ; exact hown', hbl.trans hb'⟩
      case measure => simp [intOf]
    · go_wp2_with (at_builtin; refine append_bytes bts rfl (.tmp 29) (.tmp 38) rfl B _ _ [UInt8.ofNat (n * 8 / 256 ^ 1 % 256)] 1 rfl wr _ (lit1 (n := n * 8 / 256 ^ 1 % 256) (by omega) (Nat.mod_lt _ (by decide))) rfl hown rfl (by simp [tailB]; omega) hBr ?_; intro v' w' hown' hb' hsz')
      go_roundw
      case rel => exact ⟨7, by omega, by go_num, by rw [tailB_step] ; exact hown', hbl.trans hb'⟩
      case measure => simp [intOf]
    · go_wp2_with (at_builtin; refine append_bytes bts rfl (.tmp 29) (.tmp 38) rfl B _ _ [UInt8.ofNat (n * 8 / 256 ^ 0 % 256)] 1 rfl wr _ (lit1 (n := n * 8 / 256 ^ 0 % 256) (by omega) (Nat.mod_lt _ (by decide))) rfl hown rfl (by simp [tailB]; omega) hBr ?_; intro v' w' hown' hb' hsz')
      go_roundw
      case rel => exact ⟨8, by omega, by go_num, by rw [tailB_step] ; exact hown', hbl.trans hb'⟩
      case measure => simp [intOf]
    · have hst := hown.string bts
      go_wp2_with fail
      go_returns
      refine ⟨by rw [hp.out]; rfl, by rw [HB.out]; exact hbl⟩
end Go.Proofs.Ytemfecdpjegocaa
