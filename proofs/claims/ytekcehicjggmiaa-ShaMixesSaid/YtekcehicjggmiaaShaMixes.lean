/- The walk of ShaMixes. -/
import Derived.Test.YtekcehicjggmiaaShaAlive
import Derived.Test.YtekcehicjggmiaaTwiceSums
import Derived.Test.YtekcehicjggmiaaArr8
import Derived.Test.YtekcehicjggmiaaArrEq
namespace Go.Proofs.Ytekcehicjggmiaa
open Go.RowKit Go.Shelf
set_option linter.unusedVariables false
set_option linter.unusedSimpArgs false

set_option maxRecDepth 100000 in
theorem sha_mixes_far (st : S8) (s : ByteArray) (w : World) (h0 : s.size ≤ maxLen) (h : 200 < s.size) :
    Calls Try.prog 6 #[.agg st.cs, .string s] w fun e w' => e = .returned (.bool true) ∧ Below w.heap.size w w' := by
  unfold maxLen at h0
  have h1 : decide (200 < (s.size : Int)) = true := by simp; omega
  clear h
  obtain ⟨B, hB⟩ : ∃ B, w.heap.size = B := ⟨_, rfl⟩
  have hbl : Hid (Below B w (w.alloc (.cells st.cs 27))) := (Below.refl _ _).alloc (by omega) _
  have hlt : B ≤ (w.alloc (.cells st.cs 27)).heap.size := by rw [World.size_alloc]; omega
  rw [hB]
  unfold S8.cs at *
  go_enter Try.func6, Try.ntmps6
  go_wp2_with fail
  refine (sha_alive _).mono ?_
  rintro e w1 ⟨rfl, hb1⟩
  have hbb := Lib.hid (hbl.out.trans (hb1.mono hlt))
  clear hb1
  go_wp2_with fail
  go_returns
  exact ⟨rfl, hbb.out⟩

structure MixLaw (KA : Array Value) (f0 : S8) : Prop where
  size : (Try.prog.info? 29).map (·.size) = some KA.size
  one : KA.all (·.oneCell') = true
  first : ∀ j, j < 8 → KA[64 + j]? = some (.int .u32 ((f0.get j).toNat : Int))
  made : ∀ w, Calls Try.prog 18 #[] w fun e w' => e = .returned (.agg KA) ∧ Below w.heap.size w w'
  firstw : ∀ w, Calls Try.prog 24 #[] w fun e w' => e = .returned (.agg f0.cs) ∧ Below w.heap.size w w'
theorem MixLaw.cells {KA : Array Value} {f0 : S8} (hL : MixLaw KA f0) {W : World} {g : Nat} {t : TypeId} (h : Blk W g KA t) :
    W.cell? ⟨g, 64, none⟩ = some (.int .u32 (f0.a.toNat : Int)) ∧ W.cell? ⟨g, 65, none⟩ = some (.int .u32 (f0.b.toNat : Int)) ∧ W.cell? ⟨g, 66, none⟩ = some (.int .u32 (f0.c.toNat : Int)) ∧ W.cell? ⟨g, 67, none⟩ = some (.int .u32 (f0.d.toNat : Int)) ∧
    W.cell? ⟨g, 68, none⟩ = some (.int .u32 (f0.e.toNat : Int)) ∧ W.cell? ⟨g, 69, none⟩ = some (.int .u32 (f0.f.toNat : Int)) ∧ W.cell? ⟨g, 70, none⟩ = some (.int .u32 (f0.g.toNat : Int)) ∧ W.cell? ⟨g, 71, none⟩ = some (.int .u32 (f0.h.toNat : Int)) :=
  ⟨(h.cell _).trans (hL.first 0 (by omega)), (h.cell _).trans (hL.first 1 (by omega)), (h.cell _).trans (hL.first 2 (by omega)), (h.cell _).trans (hL.first 3 (by omega)), (h.cell _).trans (hL.first 4 (by omega)), (h.cell _).trans (hL.first 5 (by omega)), (h.cell _).trans (hL.first 6 (by omega)), (h.cell _).trans (hL.first 7 (by omega))⟩
theorem mix_law : MixLaw (kA keyN) firstS := ⟨doc_by.size, doc_by.one, sum_at.first, ref_key, sha_first⟩
theorem mix_zero : ∃ Z : Array Value, (∀ w, (zeroValue 29).run Try.prog w = .ok (.agg Z) w) ∧ Z.size = 72 ∧ (Try.prog.info? 29).map (·.size) = some 72 :=
  ⟨_, (zero_of_info (P := Try.prog) key_info).1, by rw [kA_size, List.length_replicate], (zero_of_info (P := Try.prog) key_info).2⟩

set_option maxRecDepth 100000 in
set_option maxHeartbeats 2000000 in
theorem sha_mixes_bad (KA : Array Value) (f0 : S8) (hL : MixLaw KA f0) (st : S8) (s : ByteArray) (w : World) (h : s.size ≤ 200) (hne : s.size ≠ 64) :
    Calls Try.prog 6 #[.agg st.cs, .string s] w fun e w' => e = .returned (.bool true) ∧ Below w.heap.size w w' := by
  have h1 : decide (200 < (s.size : Int)) = false := by simp; omega
  have hs' : ((s.size : Int) != 64) = true := by simp; omega
  have cm : Hid (∀ w, Calls Try.prog 23 #[.agg #[.int .u32 (st.a.toNat : Int), .int .u32 (st.b.toNat : Int), .int .u32 (st.c.toNat : Int), .int .u32 (st.d.toNat : Int), .int .u32 (st.e.toNat : Int), .int .u32 (st.f.toNat : Int), .int .u32 (st.g.toNat : Int), .int .u32 (st.h.toNat : Int)], .string s] w fun e w' => e = .returned (.tuple #[.agg zeroS.cs, .int .i64 1]) ∧ Below w.heap.size w w') := fun w => sha_Mix_bad st s w hs'
  obtain ⟨Z, hz, hz2, hz3⟩ := mix_zero
  have hZs : Z.size = KA.size := by
    have h1 := hL.size
    rw [hz3] at h1
    rw [hz2]; exact Option.some.inj h1
  have HL := Lib.hid (And.intro hL hZs)
  have cf := Lib.hid hL.firstw
  have q1 := fun w => eq8 f0 w
  have q2 : ∀ w, (Op.equalIn 10000 27 (.agg zeroS.cs) (.agg #[.int .u32 0, .int .u32 0, .int .u32 0, .int .u32 0, .int .u32 0, .int .u32 0, .int .u32 0, .int .u32 0])).run Try.prog w = .ok true w := fun w => eq8 zeroS w
  have q3 := eq8_guard
  obtain ⟨B, hB⟩ : ∃ B, w.heap.size = B := ⟨_, rfl⟩
  have hbl : Hid (Blk (w.alloc (.cells st.cs 27)) B st.cs 27 ∧ Below B w (w.alloc (.cells st.cs 27))) := ⟨hB ▸ Blk.new w st.cs _, (Below.refl _ _).alloc (by omega) _⟩
  rw [hB]
  clear hL hZs hz2 hz3 hne
  unfold S8.cs at *
  go_enter Try.func6, Try.ntmps6
  go_wp2_with fail
  generalize (w.alloc _) = w0 at *
  have hlt : B < w0.heap.size := hbl.out.1.lt
  refine (sha_alive _).mono ?_
  rintro e w1 ⟨rfl, hb1⟩
  have hbl1 := Lib.hid (And.intro (Below.blk hb1 hbl.out.1 hlt) (hbl.out.2.trans (hb1.mono (by omega))))
  have hlt1 : B < w1.heap.size := hbl1.out.1.lt
  clear hb1 hbl
  go_wp2_with fail
  refine (HL.out.1.made _).mono ?_
  rintro e w2 ⟨rfl, hb2⟩
  have hbl2 := Lib.hid (And.intro (Below.blk hb2 hbl1.out.1 hlt1) (hbl1.out.2.trans (hb2.mono (by omega))))
  have hlt2 : B < w2.heap.size := hbl2.out.1.lt
  clear hb2 hbl1
  obtain ⟨g, hg⟩ : ∃ g, w2.heap.size = g := ⟨_, rfl⟩
  have hblk : Hid (Blk (w2.alloc (.cells Z 29)) g Z 29 ∧ B < g) := ⟨hg ▸ Blk.new w2 Z _, by omega⟩
  have hv3 := (hbl2.out.1.alloc (.cells Z 29)).setRowOther (show B ≠ g by omega) KA
  have hk3 := hblk.out.1.setRow KA
  have hb3 := Below.setRow (hbl2.out.2.alloc (by omega) (.cells Z 29)) (show B ≤ g by omega) KA
  have e8 := Blk.eight (Z := st) hv3
  have H3 := Lib.hid (And.intro hv3 (And.intro hk3 hb3))
  clear hv3 hk3 hb3 hbl2
  go_wp2_with (refine wpList_store_row rfl 29 (.tmp 5) (.tmp 13) rfl g KA rfl rfl _ Z hblk.out.1 HL.out.1.size HL.out.2 HL.out.1.one ?_)
  obtain ⟨hBg, hgl⟩ : B < g ∧ g < ((w2.alloc (.cells Z 29)).setRow g KA).heap.size := ⟨hblk.out.2, H3.out.2.1.lt⟩
  clear hblk hg hz e8
  generalize (w2.alloc (.cells Z 29)).setRow g KA = w3 at *
  refine (cm.out _).mono ?_
  rintro e w4 ⟨rfl, hb4⟩
  have H4 := Lib.hid (And.intro (Below.blk hb4 H3.out.1 (by omega)) (And.intro (Below.blk hb4 H3.out.2.1 hgl) (H3.out.2.2.trans (hb4.mono (by omega)))))
  have hgl4 : g < w4.heap.size := H4.out.2.1.lt
  clear H3 hb4
  go_upto_region 7 with fail
  have H5 : Blk (w4.alloc (.cells zeroS.cs 27)) B st.cs 27 ∧ Blk (w4.alloc (.cells zeroS.cs 27)) g KA 29 ∧ Blk (w4.alloc (.cells zeroS.cs 27)) w4.heap.size zeroS.cs 27 ∧ Below B w (w4.alloc (.cells zeroS.cs 27)) :=
    ⟨Blk.alloc (cs := st.cs) H4.out.1 _, H4.out.2.1.alloc _, Blk.new w4 _ _, H4.out.2.2.alloc (by omega) _⟩
  refine wp_gen (fun W => Blk W B st.cs 27 ∧ Blk W g KA 29 ∧ Blk W w4.heap.size zeroS.cs 27 ∧ Below B w W) H5 ?_
  clear H5 H4
  generalize w4.heap.size = m at *
  clear w4
  rintro w5 ⟨h5a, h5b, h5c, h5d⟩
  have hg5 : g < w5.heap.size := h5b.lt
  have hm5 : m < w5.heap.size := h5c.lt
  have hfx := fun (x : Fut w5) => HL.out.1.cells (Below.blk x.is h5b hg5)
  have H5 := Lib.hid (And.intro h5a (And.intro h5b (And.intro h5c h5d)))
  clear h5a h5b h5c h5d
  refine wp_region_after (by kernel_rfl) (by kernel_rfl) ?_
  go_big_quiet_step (exact Calls.after (cf.out _))
  repeat (go_big_quiet_step (fail))
  refine wpQuiet_nil ?_
  intro x
  have H6 := Lib.hid (And.intro (Below.blk x.is H5.out.2.2.1 hm5) (H5.out.2.2.2.trans (x.is.mono (by omega))))
  clear H5 hfx
  obtain ⟨w6, hw6⟩ := x
  simp only at *
  have e8 := Blk.eight (Z := zeroS) H6.out.1
  have hb6 := H6.out.2
  clear H6 hw6
  go_wp2_with fail
  go_returns
  exact ⟨rfl, hb6⟩

set_option maxRecDepth 100000 in
set_option maxHeartbeats 2000000 in
theorem sha_mixes_ok (KA : Array Value) (f0 : S8) (hL : MixLaw KA f0) (st : S8) (s : ByteArray) (Y : S8) (hmp : ∀ w, Calls Try.prog 23 #[.agg st.cs, .string s] w fun e w' => e = .returned (.tuple #[.agg Y.cs, .int .i64 0]) ∧ Below w.heap.size w w')
    (hmd : ∀ w, Calls Try.prog 25 #[.agg KA, .agg st.cs, .string s] w fun e w' => e = .returned (.agg Y.cs) ∧ Below w.heap.size w w') (w : World) (h : s.size = 64) :
    Calls Try.prog 6 #[.agg st.cs, .string s] w fun e w' => e = .returned (.bool true) ∧ Below w.heap.size w w' := by
  have h1 : decide (200 < (s.size : Int)) = false := by simp; omega
  have hs' : ((s.size : Int) != 64) = false := by simp; omega
  have cm := Lib.hid hmp
  have cd := Lib.hid hmd
  obtain ⟨Z, hz, hz2, hz3⟩ := mix_zero
  have hZs : Z.size = KA.size := by
    have h1 := hL.size
    rw [hz3] at h1
    rw [hz2]; exact Option.some.inj h1
  have HL := Lib.hid (And.intro hL hZs)
  have cf := Lib.hid hL.firstw
  have q1 := fun w => eq8 f0 w
  have q2 := fun w => eq8 Y w
  have q3 := eq8_guard
  obtain ⟨B, hB⟩ : ∃ B, w.heap.size = B := ⟨_, rfl⟩
  have hbl : Hid (Blk (w.alloc (.cells st.cs 27)) B st.cs 27 ∧ Below B w (w.alloc (.cells st.cs 27))) := ⟨hB ▸ Blk.new w st.cs _, (Below.refl _ _).alloc (by omega) _⟩
  rw [hB]
  clear hL hZs hz2 hz3 hmp hmd h
  unfold S8.cs at *
  go_enter Try.func6, Try.ntmps6
  go_wp2_with fail
  generalize (w.alloc _) = w0 at *
  have hlt : B < w0.heap.size := hbl.out.1.lt
  refine (sha_alive _).mono ?_
  rintro e w1 ⟨rfl, hb1⟩
  have hbl1 := Lib.hid (And.intro (Below.blk hb1 hbl.out.1 hlt) (hbl.out.2.trans (hb1.mono (by omega))))
  have hlt1 : B < w1.heap.size := hbl1.out.1.lt
  clear hb1 hbl
  go_wp2_with fail
  refine (HL.out.1.made _).mono ?_
  rintro e w2 ⟨rfl, hb2⟩
  have hbl2 := Lib.hid (And.intro (Below.blk hb2 hbl1.out.1 hlt1) (hbl1.out.2.trans (hb2.mono (by omega))))
  have hlt2 : B < w2.heap.size := hbl2.out.1.lt
  clear hb2 hbl1
  obtain ⟨g, hg⟩ : ∃ g, w2.heap.size = g := ⟨_, rfl⟩
  have hblk : Hid (Blk (w2.alloc (.cells Z 29)) g Z 29 ∧ B < g) := ⟨hg ▸ Blk.new w2 Z _, by omega⟩
  have hv3 := (hbl2.out.1.alloc (.cells Z 29)).setRowOther (show B ≠ g by omega) KA
  have hk3 := hblk.out.1.setRow KA
  have hb3 := Below.setRow (hbl2.out.2.alloc (by omega) (.cells Z 29)) (show B ≤ g by omega) KA
  have e8 := Blk.eight (Z := st) hv3
  have H3 := Lib.hid (And.intro hv3 (And.intro hk3 hb3))
  clear hv3 hk3 hb3 hbl2
  go_wp2_with (refine wpList_store_row rfl 29 (.tmp 5) (.tmp 13) rfl g KA rfl rfl _ Z hblk.out.1 HL.out.1.size HL.out.2 HL.out.1.one ?_)
  obtain ⟨hBg, hgl⟩ : B < g ∧ g < ((w2.alloc (.cells Z 29)).setRow g KA).heap.size := ⟨hblk.out.2, H3.out.2.1.lt⟩
  clear hblk hg hz e8
  generalize (w2.alloc (.cells Z 29)).setRow g KA = w3 at *
  refine (cm.out _).mono ?_
  rintro e w4 ⟨rfl, hb4⟩
  have H4 := Lib.hid (And.intro (Below.blk hb4 H3.out.1 (by omega)) (And.intro (Below.blk hb4 H3.out.2.1 hgl) (H3.out.2.2.trans (hb4.mono (by omega)))))
  have hgl4 : g < w4.heap.size := H4.out.2.1.lt
  clear H3 hb4 cm
  go_upto_region 7 with fail
  have H5 : Blk (w4.alloc (.cells Y.cs 27)) B st.cs 27 ∧ Blk (w4.alloc (.cells Y.cs 27)) g KA 29 ∧ Blk (w4.alloc (.cells Y.cs 27)) w4.heap.size Y.cs 27 ∧ Below B w (w4.alloc (.cells Y.cs 27)) :=
    ⟨Blk.alloc (cs := st.cs) H4.out.1 _, H4.out.2.1.alloc _, Blk.new w4 _ _, H4.out.2.2.alloc (by omega) _⟩
  refine wp_gen (fun W => Blk W B st.cs 27 ∧ Blk W g KA 29 ∧ Blk W w4.heap.size Y.cs 27 ∧ Below B w W) H5 ?_
  clear H5 H4
  generalize w4.heap.size = m at *
  clear w4
  rintro w5 ⟨h5a, h5b, h5c, h5d⟩
  have hg5 : g < w5.heap.size := h5b.lt
  have hm5 : m < w5.heap.size := h5c.lt
  have hfx := fun (x : Fut w5) => HL.out.1.cells (Below.blk x.is h5b hg5)
  have H5 := Lib.hid (And.intro h5a (And.intro h5b (And.intro h5c h5d)))
  clear h5a h5b h5c h5d
  refine wp_region_after (by kernel_rfl) (by kernel_rfl) ?_
  go_big_quiet_step (exact Calls.after (cf.out _))
  repeat (go_big_quiet_step (fail))
  refine wpQuiet_nil ?_
  intro x
  have H6 := Lib.hid (And.intro (Below.blk x.is H5.out.1 (by omega)) (And.intro (Below.blk x.is H5.out.2.1 hg5) (And.intro (Below.blk x.is H5.out.2.2.1 hm5) (H5.out.2.2.2.trans (x.is.mono (by omega))))))
  clear H5 hfx q1 cf
  obtain ⟨w6, hw6⟩ := x
  simp only at *
  clear hw6
  have hg6 : g < w6.heap.size := H6.out.2.1.lt
  have hm6 : m < w6.heap.size := H6.out.2.2.1.lt
  have hB6 : B < w6.heap.size := H6.out.1.lt
  go_upto_region 11 with fail
  have eY := fun (x : Fut w6) => (Below.blk x.is (show Blk w6 m Y.cs 27 from H6.out.2.2.1) hm6).eight
  have eS := fun (x : Fut w6) => (Below.blk x.is (show Blk w6 B st.cs 27 from H6.out.1) hB6).eight
  have hkx : Hid (∀ W, (∃ x : Fut w6, W = x.at_) → Blk W g KA 29) := by
    rintro _ ⟨x, rfl⟩
    exact Below.blk x.is H6.out.2.1 hg6
  refine wp_region_after (by kernel_rfl) (by kernel_rfl) ?_
  go_big_quiet_step (fail)
  go_big_quiet_step (fail)
  go_big_quiet_step (fail)
  go_big_quiet_step (fail)
  go_big_quiet_want
  refine quiet_load_row 29 (.tmp 5) rfl g rfl _ KA _ hkx.out Try.underlying29 rfl HL.out.1.size ?_
  go_big_quiet_on
  simp only [Act.put, List.setIfInBounds_toArray, List.set_cons_zero, List.set_cons_succ]
  go_big_quiet_step (fail)
  go_big_quiet_step (fail)
  go_big_quiet_step (exact Calls.after (cd.out _))
  repeat (go_big_quiet_step (fail))
  refine wpQuiet_nil ?_
  intro x
  have hb7 := H6.out.2.2.2.trans (x.is.mono (by omega))
  clear eY eS
  go_wp2_with fail
  go_returns
  exact ⟨rfl, hb7⟩

theorem sha_mixes (st : S8) (s : ByteArray) (w : World) (_ : True) (h0 : s.size ≤ maxLen) :
    Calls Try.prog 6 #[.agg st.cs, .string s] w fun e w' => e = .returned (.bool true) ∧ Below w.heap.size w w' := by
  by_cases h : 200 < s.size
  · exact sha_mixes_far st s w h0 h
  · by_cases h64 : s.size = 64
    · exact sha_mixes_ok _ _ mix_law st s _ (fun w => sha_Mix st s w h64) (fun w => ref_mix st s w h64) w h64
    · exact sha_mixes_bad _ _ mix_law st s w (by omega) h64
end Go.Proofs.Ytekcehicjggmiaa
