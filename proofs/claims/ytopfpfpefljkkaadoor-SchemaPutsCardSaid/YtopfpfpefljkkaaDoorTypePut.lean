/- Package schema: Put. -/
import Derived.Test.YtopfpfpefljkkaaDoorWrite
namespace Go.Proofs.YtopfpfpefljkkaaDoor
open Go.RowKit Go.Shelf
set_option linter.unusedVariables false
set_option linter.unusedSimpArgs false

mutual
theorem put_len (x : Rose TL) (h : x.all right1 = true) : (put x).length + 2 ≤ 14 * x.count := by
  cases x with
  | node a s =>
    obtain ⟨kind, size, tail⟩ := a
    simp only [Rose.all, Bool.and_eq_true, right1, rightK, decide_eq_true_eq] at h
    obtain ⟨h0, hL⟩ := h
    have hl := fun f t => putL_len f t s hL
    simp only [Rose.count]
    simp only [put]
    split
    · have := decN_len (8 * size).toNat (by omega)
      simp; omega
    split
    · have := decN_len size.toNat (by omega)
      simp; omega
    split
    · have := decN_len size.toNat (by omega)
      simp; omega
    split
    · have := decN_len size.toNat (by omega)
      have := hl true 0
      simp; omega
    · have := hl true tail.toNat
      simp; omega
theorem putL_len (f : Bool) (t : Nat) (s : List (Rose TL)) (h : Rose.allL right1 s = true) : (putL f t s).length ≤ 14 * Rose.countL s := by
  cases s with
  | nil => simp [putL]
  | cons x xs =>
    simp only [Rose.allL, Bool.and_eq_true] at h
    have h1 := put_len x h.1
    have h2 := putL_len false t xs h.2
    have e1 : (if f = true then ([] : List UInt8) else [44]).length ≤ 1 := by split <;> simp
    have e2 : (if xs.length + 1 ≤ t then ([63] : List UInt8) else []).length ≤ 1 := by split <;> simp
    simp only [putL, Rose.countL, List.length_append]
    omega
end

set_option maxRecDepth 100000 in
set_option maxHeartbeats 2000000 in
theorem prog_put (x : Rose TL) (w : World) (v : Value) (hv : TSubs w v x.sub) (hT : TabU w) (hS : TabS w) :
    Calls Tryd.prog 13 #[.agg #[.int .i64 x.lab.kind, .int .i64 x.lab.size, v, .int .i64 x.lab.tail]] w
      fun e w' => e = .returned (if mayT x then .tuple #[.string ⟨(put x).toArray⟩, .int .i64 0] else .tuple #[.string ⟨#[]⟩, .int .i64 1]) ∧ Below w.heap.size w w' := by
  have hT0 := hT.lt
  have hS0 := hS.lt
  have HW := Lib.hid (box_type (k := x.lab.kind) (z := x.lab.size) (l := x.lab.tail) (t := 24) hv)
  obtain ⟨g, hg⟩ : ∃ g, w.heap.size = g := ⟨_, rfl⟩
  have hvB : TBel g w v x.sub := hv.keep (Nat.le_refl _) (fun k hk _ => by omega) fun _ _ _ => rfl
  have HV := Lib.hid (And.intro hvB (And.intro hT hS))
  have HMT : Hid (mayT x = true → x.all right1 = true ∧ x.count ≤ 64) := Lib.hid fun h => by
    simp only [mayT, Bool.and_eq_true, decide_eq_true_eq] at h
    exact ⟨h.2, h.1.1⟩
  rw [hg] at HW hT0 hS0 ⊢
  clear hv hvB hT hS
  have hgo : ∀ W, w.alloc (.cells #[.int .i64 x.lab.kind, .int .i64 x.lab.size, v, .int .i64 x.lab.tail] 24) = W → Below g w W ∧ TSubs W v x.sub ∧ TabU W ∧ W.heap.size = g + 1 := fun W h => by
    obtain ⟨h1, h2, h3, _⟩ := HW.out W h
    exact ⟨h1, h2, HV.out.2.1.below h1 hT0, h3⟩
  have HGO := Lib.hid hgo
  clear hgo
  cases hm : mayT x with
  | false =>
    have CM : Hid (∀ W, w.alloc (.cells #[.int .i64 x.lab.kind, .int .i64 x.lab.size, v, .int .i64 x.lab.tail] 24) = W → Calls Tryd.prog 14 #[.agg #[.int .i64 x.lab.kind, .int .i64 x.lab.size, v, .int .i64 x.lab.tail]] W fun e w' => e = .returned (.bool false) ∧ Below W.heap.size W w') := Lib.hid fun W h => by
      have := prog_May x W v (HGO.out W h).2.1 (HGO.out W h).2.2.1
      rwa [hm] at this
    clear hm HMT
    go_enter Tryd.func13, Tryd.ntmps13
    go_upto_region 1 with fail
    generalize w.alloc (.cells #[.int .i64 x.lab.kind, .int .i64 x.lab.size, v, .int .i64 x.lab.tail] 24) = w1 at *
    obtain ⟨hb1, ht1, hsz, c0, c1, c2, c3⟩ := HW.out _ rfl
    have CM1 := Lib.hid (CM.out _ rfl)
    have HB := Lib.hid hb1
    have HS := Lib.hid hsz
    clear HW hb1 ht1 hsz CM HGO
    go_wp2_with fail
    refine (CM1.out).mono ?_
    rintro e w2 ⟨rfl, hb2⟩
    have HB2 := Lib.hid (HB.out.trans (hb2.mono (by have := HS.out; omega)))
    clear hb2
    go_wp2_with fail
    go_returns
    exact ⟨rfl, HB2.out⟩
  | true =>
    have HR := Lib.hid (HMT.out hm)
    have CM : Hid (∀ W, w.alloc (.cells #[.int .i64 x.lab.kind, .int .i64 x.lab.size, v, .int .i64 x.lab.tail] 24) = W → Calls Tryd.prog 14 #[.agg #[.int .i64 x.lab.kind, .int .i64 x.lab.size, v, .int .i64 x.lab.tail]] W fun e w' => e = .returned (.bool true) ∧ Below W.heap.size W w') := Lib.hid fun W h => by
      have := prog_May x W v (HGO.out W h).2.1 (HGO.out W h).2.2.1
      rwa [hm] at this
    clear hm HMT
    have HPL : Hid ((put x).length ≤ 1000000) := Lib.hid (by have := put_len x HR.out.1; have := HR.out.2; omega)
    go_enter Tryd.func13, Tryd.ntmps13
    go_upto_region 1 with fail
    generalize w.alloc (.cells #[.int .i64 x.lab.kind, .int .i64 x.lab.size, v, .int .i64 x.lab.tail] 24) = w1 at *
    obtain ⟨hb1, ht1, hsz, c0, c1, c2, c3⟩ := HW.out _ rfl
    have CM1 := Lib.hid (CM.out _ rfl)
    have HB := Lib.hid hb1
    have HS := Lib.hid hsz
    clear HW hb1 ht1 CM HGO
    go_wp2_with fail
    refine (CM1.out).mono ?_
    rintro e w2 ⟨rfl, hb2⟩
    have hlt : g < w1.heap.size := by omega
    have hz2 : w1.heap.size ≤ w2.heap.size := hb2.size
    have d0 := (hb2.cell (p := ⟨g, 0, none⟩) hlt).trans c0
    have d1 := (hb2.cell (p := ⟨g, 1, none⟩) hlt).trans c1
    have d2 := (hb2.cell (p := ⟨g, 2, none⟩) hlt).trans c2
    have d3 := (hb2.cell (p := ⟨g, 3, none⟩) hlt).trans c3
    have HB2 := Lib.hid (HB.out.trans (hb2.mono (by have := HS.out; omega)))
    have HA2 : Hid (∀ W, w2.alloc (.cells #[.pointer none, .slice none 0 0] 47) = W → Below g w W ∧ BF g w2.heap.size [] W ∧ Below w2.heap.size w2 W ∧ W.heap.size = w2.heap.size + 1) := Lib.hid fun W h => by
      subst h
      have hal := (Below.refl w2.heap.size w2).alloc (Nat.le_refl _) (.cells #[.pointer none, .slice none 0 0] 47)
      exact ⟨HB2.out.trans (hal.mono (by omega)), .inl ⟨by omega, .slice none 0 0, Blk.new w2 _ _, World.ownsRow_nil _ _ _ _, by simp [Value.ownBlock]⟩, hal, by simp⟩
    clear hb2 c0 c1 c2 c3
    go_upto_region 4 with fail
    generalize w2.alloc (.cells #[.pointer none, .slice none 0 0] 47) = w3 at *
    have H3 := Lib.hid (HA2.out _ rfl)
    have hg2 : g < w2.heap.size := by omega
    have e0 := (H3.out.2.2.1.cell (p := ⟨g, 0, none⟩) hg2).trans d0
    have e1 := (H3.out.2.2.1.cell (p := ⟨g, 1, none⟩) hg2).trans d1
    have e2 := (H3.out.2.2.1.cell (p := ⟨g, 2, none⟩) hg2).trans d2
    have e3 := (H3.out.2.2.1.cell (p := ⟨g, 3, none⟩) hg2).trans d3
    have hz3 : w2.heap.size < w3.heap.size := by have := H3.out.2.2.2; omega
    have CW := Lib.hid (prog_write g w2.heap.size hS0 x w3 v [] (HV.out.1.below H3.out.1) H3.out.2.1 (HV.out.2.2.below H3.out.1 hS0) HR.out.1 (by have := HPL.out; simpa using this) (by omega) (by omega))
    clear HA2 d0 d1 d2 d3
    go_wp2_with fail
    refine (CW.out).mono ?_
    rintro e w4 ⟨rfl, hbd, hb4, hkt⟩
    have CS := Lib.hid (bString g w2.heap.size (put x) w4 (by have h : BF g w2.heap.size ([] ++ put x) w4 := hbd.is; rw [List.nil_append] at h; exact h) (by have := hb4.size; omega))
    have H4 := Lib.hid (H3.out.1.trans hb4)
    clear hbd hb4 hkt e0 e1 e2 e3
    go_wp2_with fail
    refine (CS.out).mono ?_
    rintro e w5 ⟨rfl, hb5⟩
    have H5 := Lib.hid (H4.out.trans hb5)
    clear hb5
    go_wp2_with fail
    go_returns
    exact ⟨rfl, H5.out⟩
end Go.Proofs.YtopfpfpefljkkaaDoor
