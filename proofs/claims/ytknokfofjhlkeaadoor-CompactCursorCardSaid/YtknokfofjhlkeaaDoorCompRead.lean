/- compact.Read and the document's Read. -/
import Derived.Test.YtknokfofjhlkeaaDoorCompLaws
import Derived.Test.YtknokfofjhlkeaaDoorCursorMore
import Derived.Test.YtknokfofjhlkeaaDoorRef01
import Derived.Lib.Strings
namespace Go.Proofs.YtknokfofjhlkeaaDoor
open Go.RowKit
set_option linter.unusedVariables false

/-- The error of a number that was read, against a most. -/
def cErr (t : Nat × Nat × Nat) (most : Nat) : Nat := if t.2.2 = 0 ∧ most < t.1 then 5 else t.2.2
def RS.comp (r : RS) (most : Nat) : RS × Nat :=
  if r.f = 0 then
    (fun t : Nat × Nat × Nat => if cErr t most = 0 then ((⟨r.t, r.p + t.2.1, 0⟩ : RS), t.1) else (⟨r.t, r.p, cErr t most⟩, 0)) (cNext (r.t.data.toList.drop r.p))
  else (r, 0)

theorem comp_size_le {t : ByteArray} {p n k : Nat} (h : cNext (t.data.toList.drop p) = (n, k, 0)) (hp : p ≤ t.size) : p + k ≤ t.size := by
  have h1 := (cNext_ok h).1
  rw [List.length_drop] at h1
  have : t.data.toList.length = t.size := by simp
  omega
theorem RS.Ok.comp {r : RS} (h : r.Ok) (most : Nat) : (r.comp most).1.Ok := by
  obtain ⟨h1, h2⟩ := h
  unfold RS.comp
  split
  · generalize ht : cNext (r.t.data.toList.drop r.p) = t
    obtain ⟨n, k, e⟩ := t
    simp only []
    split
    · rename_i hf he
      have he0 : e = 0 := by unfold cErr at he; simp only at he; split at he <;> omega
      subst he0
      exact ⟨comp_size_le ht h1, h2⟩
    · exact ⟨h1, h2⟩
  · exact ⟨h1, h2⟩
theorem comp_t (r : RS) (most : Nat) : (r.comp most).1.t = r.t := by
  unfold RS.comp
  split
  · generalize cNext (r.t.data.toList.drop r.p) = t
    simp only []
    split <;> rfl
  · rfl

theorem Tab.upd {w w' : World} {b : Nat} (h : Tab w) (u : Upd b w w') (hne : 0 ≠ b) : Tab w' := by
  have hb := u.block 0 h.lt (by simpa using hne)
  have key : ∀ i, w'.cell? ⟨0, i, none⟩ = w.cell? ⟨0, i, none⟩ := fun i => by simp only [World.cell?, hb]
  exact ⟨(key 0).trans h.a, (key 1).trans h.b, (key 2).trans h.c⟩

set_option maxRecDepth 100000 in
set_option maxHeartbeats 1000000 in
theorem comp_read (b : Nat) (r : RS) (most : Nat) (w : World) (hr : r.Ok) (hb : IsR w b r) (hm : most < 18446744073709551616) (hT : Tab w) (hG : 0 ≠ b) :
    Calls Tryd.prog 13 #[.pointer (some ⟨b, 0, none⟩), .int .u64 most] w (RPost b w (r.comp most).1 (.int .u64 (r.comp most).2)) := by
  obtain ⟨t, p, f⟩ := r
  obtain ⟨h1, h2⟩ := hr
  simp only at h1 h2
  have cf := Lib.hid (cursor_fault b ⟨t, p, f⟩ w hb)
  have HT := Lib.hid hT
  clear hT
  by_cases hf : f = 0
  · subst hf
    have ca := Lib.hid (cursor_ahead b ⟨t, p, 0⟩ 9 w ⟨h1, h2⟩ hb)
    have ea : RS.ahead ⟨t, p, 0⟩ 9 = t.extract p (p + min 9 (t.size - p)) := by unfold RS.ahead; rw [if_pos rfl, if_pos (by decide)]; rfl
    have cn := fun w hT => comp_next (t.extract p (p + min 9 (t.size - p))) w (by unfold maxLen; rw [ByteArray.size_extract]; omega) hT
    have en : cNext (t.extract p (p + min 9 (t.size - p))).data.toList = cNext (t.data.toList.drop p) := by
      rw [Lib.extract_data, ← cNext_nine (t.data.toList.drop p)]
      congr 1
      rw [show p + min 9 (t.size - p) - p = min 9 (t.size - p) by omega]
      by_cases h10 : 9 ≤ t.size - p
      · rw [Nat.min_eq_left h10]
      · have hl : (t.data.toList.drop p).length ≤ t.size - p := by rw [List.length_drop]; simp
        rw [Nat.min_eq_right (by omega), List.take_of_length_le hl, List.take_of_length_le (by omega)]
    rw [en] at cn
    rw [ea] at ca
    generalize t.extract p (p + min 9 (t.size - p)) = x at *
    have el : ∀ T, cNext (t.data.toList.drop p) = T → RS.comp ⟨t, p, 0⟩ most = if cErr T most = 0 then ((⟨t, p + T.2.1, 0⟩ : RS), T.1) else (⟨t, p, cErr T most⟩, 0) := by
      intro T hT; unfold RS.comp; rw [if_pos rfl, hT]
    have hsz := fun n k (h : cNext (t.data.toList.drop p) = (n, k, 0)) => comp_size_le h h1
    generalize cNext (t.data.toList.drop p) = T at *
    have el := el T rfl
    obtain ⟨n, k, e⟩ := T
    clear ea en
    have CN : Hid (∀ w, Tab w → Calls Tryd.prog 8 #[.string x] w fun e_ w' => e_ = .returned (.tuple #[.int .u64 n, .int .i64 k, .int .i64 e]) ∧ w = w') := cn
    clear cn
    by_cases he : e = 0
    · subst he
      have hle := hsz n k rfl
      clear hsz
      by_cases hgt : most < n
      · have e5 : cErr (n, k, 0) most = 5 := if_pos ⟨rfl, hgt⟩
        rw [e5, if_neg (by decide)] at el
        rw [el]
        have cx := fun w h => cursor_fail b ⟨t, p, 0⟩ 5 w h
        rw [show RS.fail ⟨t, p, 0⟩ 5 = ⟨t, p, 5⟩ from rfl] at cx
        have CX := Lib.hid cx
        clear cx el e5
        go_enter Tryd.func13, Tryd.ntmps13
        go_wp2_with fail
        refine cf.out.mono ?_
        rintro e w' ⟨rfl, rfl⟩
        simp only []
        go_wp2_with fail
        refine ca.out.mono ?_
        rintro e w2 ⟨rfl, u2, hb2⟩
        have hT2 := Lib.hid (HT.out.upd u2 hG)
        go_wp2_with fail
        refine (CN.out _ hT2.out).mono ?_
        rintro e w' ⟨rfl, rfl⟩
        go_wp2_with fail
        refine (CX.out _ hb2).mono ?_
        rintro e w3 ⟨rfl, u3, hb3⟩
        go_wp2_with fail
        go_returns
        exact ⟨rfl, u2.trans u3, hb3⟩
      · have e5 : cErr (n, k, 0) most = 0 := if_neg (fun h => hgt h.2)
        rw [e5, if_pos rfl] at el
        rw [el]
        have hgt' : decide (most < n) = false := by simp; omega
        have cx := fun w h => cursor_take b ⟨t, p, 0⟩ k w ⟨h1, h2⟩ h
        rw [show RS.take ⟨t, p, 0⟩ k = (⟨t, p + k, 0⟩, t.extract p (p + k)) from by unfold RS.take; rw [if_pos rfl, if_neg (by omega), if_neg (by simp only []; omega)]; rfl] at cx
        have CX := Lib.hid cx
        clear cx el e5 hgt
        go_enter Tryd.func13, Tryd.ntmps13
        go_wp2_with fail
        refine cf.out.mono ?_
        rintro e w' ⟨rfl, rfl⟩
        simp only []
        go_wp2_with fail
        refine ca.out.mono ?_
        rintro e w2 ⟨rfl, u2, hb2⟩
        have hT2 := Lib.hid (HT.out.upd u2 hG)
        go_wp2_with fail
        refine (CN.out _ hT2.out).mono ?_
        rintro e w' ⟨rfl, rfl⟩
        go_wp2_with fail
        refine (CX.out _ hb2).mono ?_
        rintro e w3 ⟨rfl, u3, hb3⟩
        go_wp2_with fail
        go_returns
        exact ⟨rfl, u2.trans u3, hb3⟩
    · have e5 : cErr (n, k, e) most = e := if_neg (fun h => he h.1)
      rw [e5, if_neg he] at el
      rw [el]
      have he1 : ((e : Int) == 0) = false := by rw [beq_eq_false_iff_ne]; omega
      have he2 : ((e : Int) != 0) = true := by rw [bne_iff_ne]; omega
      have cx := fun w h => cursor_fail b ⟨t, p, 0⟩ e w h
      rw [show RS.fail ⟨t, p, 0⟩ e = ⟨t, p, e⟩ from rfl] at cx
      have CX := Lib.hid cx
      clear cx el e5 he
      go_enter Tryd.func13, Tryd.ntmps13
      go_wp2_with fail
      refine cf.out.mono ?_
      rintro e w' ⟨rfl, rfl⟩
      simp only []
      go_wp2_with fail
      refine ca.out.mono ?_
      rintro e w2 ⟨rfl, u2, hb2⟩
      have hT2 := Lib.hid (HT.out.upd u2 hG)
      go_wp2_with fail
      refine (CN.out _ hT2.out).mono ?_
      rintro e w' ⟨rfl, rfl⟩
      go_wp2_with fail
      refine (CX.out _ hb2).mono ?_
      rintro e w3 ⟨rfl, u3, hb3⟩
      go_wp2_with fail
      go_returns
      exact ⟨rfl, u2.trans u3, hb3⟩
  · have e : RS.comp ⟨t, p, f⟩ most = (⟨t, p, f⟩, 0) := by unfold RS.comp; rw [if_neg hf]
    rw [e]
    have hf' : ((f : Int) != 0) = true := by rw [bne_iff_ne]; exact hf
    clear e hf
    go_enter Tryd.func13, Tryd.ntmps13
    go_wp2_with fail
    refine cf.out.mono ?_
    rintro e w' ⟨rfl, rfl⟩
    simp only []
    go_wp2_with fail
    go_returns
    exact ⟨rfl, Upd.refl b w, hb⟩

set_option maxRecDepth 100000 in
set_option maxHeartbeats 1000000 in
theorem ref_comp_read (b : Nat) (r : RS) (most : Nat) (w : World) (hr : r.Ok) (hb : IsX w b r) (hm : most < 18446744073709551616) :
    Calls Tryd.prog 14 #[.pointer (some ⟨b, 0, none⟩), .int .u64 most] w (XPost b w (r.comp most).1 (.int .u64 (r.comp most).2)) := by
  obtain ⟨t, p, f⟩ := r
  obtain ⟨h1, h2⟩ := hr
  simp only at h1 h2
  have c0 := Blk.cell hb 0
  have c1 := Blk.cell hb 1
  have c2 := Blk.cell hb 2
  have f1 := Blk.free hb 1
  have f2 := Blk.free hb 2
  simp [RS.cs] at c0 c1 c2
  have hlt := Blk.lt hb
  have z0 : ∀ x : Fut w, x.at_.cell? ⟨b, 0, none⟩ = some (.string t) := fun x => (x.is.cell (p := ⟨b, 0, none⟩) hlt).trans c0
  have z1 : ∀ x : Fut w, x.at_.cell? ⟨b, 1, none⟩ = some (.int .i64 p) := fun x => (x.is.cell (p := ⟨b, 1, none⟩) hlt).trans c1
  by_cases hf : f = 0
  · subst hf
    have cn := fun w => ref_comp_next (t.extract p t.size) w (by unfold maxLen; rw [ByteArray.size_extract]; omega)
    have en : (t.extract p t.size).data.toList = t.data.toList.drop p := by
      rw [Lib.extract_data, List.take_of_length_le (by rw [List.length_drop]; simp)]
    rw [en] at cn
    have el : ∀ T, cNext (t.data.toList.drop p) = T → RS.comp ⟨t, p, 0⟩ most = if cErr T most = 0 then ((⟨t, p + T.2.1, 0⟩ : RS), T.1) else (⟨t, p, cErr T most⟩, 0) := by
      intro T hT; unfold RS.comp; rw [if_pos rfl, hT]
    have hsz := fun n k (h : cNext (t.data.toList.drop p) = (n, k, 0)) => comp_size_le h h1
    generalize cNext (t.data.toList.drop p) = T at *
    have el := el T rfl
    obtain ⟨n, k, e⟩ := T
    clear en
    have CN : Hid (∀ w, Calls Tryd.prog 10 #[.string (t.extract p t.size)] w fun e_ w' => e_ = .returned (.tuple #[.int .u64 n, .int .i64 k, .int .i64 e]) ∧ Below w.heap.size w w') := cn
    clear cn
    by_cases he : e = 0
    · subst he
      have hle := hsz n k rfl
      clear hsz
      by_cases hgt : most < n
      · have e5 : cErr (n, k, 0) most = 5 := if_pos ⟨rfl, hgt⟩
        rw [e5, if_neg (by decide)] at el
        rw [el]
        clear el e5
        go_enter Tryd.func14, Tryd.ntmps14
        go_wp2_with fail
        refine wp_region_after (by kernel_rfl) (by kernel_rfl) ?_
        repeat (go_big_quiet_step ((go_at_call 10; exact Calls.after (CN.out _))))
        refine wpQuiet_nil ?_
        intro x
        have hbx := Below.blk x.is hb hlt
        have x1 := hbx.cell 1
        have y1 := hbx.free 1
        have y2 := hbx.free 2
        have x2 := hbx.cell 2
        simp [RS.cs] at x1 x2
        go_wp2_with fail
        go_returns
        exact ⟨rfl, (Upd.of x.is).set 2 _, hbx.set 2 _⟩
      · have e5 : cErr (n, k, 0) most = 0 := if_neg (fun h => hgt h.2)
        rw [e5, if_pos rfl] at el
        rw [el]
        have hgt' : decide (most < n) = false := by simp; omega
        clear el e5 hgt
        go_enter Tryd.func14, Tryd.ntmps14
        go_wp2_with fail
        refine wp_region_after (by kernel_rfl) (by kernel_rfl) ?_
        repeat (go_big_quiet_step ((go_at_call 10; exact Calls.after (CN.out _))))
        refine wpQuiet_nil ?_
        intro x
        have hbx := Below.blk x.is hb hlt
        have x1 := hbx.cell 1
        have y1 := hbx.free 1
        have y2 := hbx.free 2
        have x2 := hbx.cell 2
        simp [RS.cs] at x1 x2
        go_wp2_with fail
        go_returns
        exact ⟨rfl, (Upd.of x.is).set 1 _, hbx.set 1 _⟩
    · have e5 : cErr (n, k, e) most = e := if_neg (fun h => he h.1)
      rw [e5, if_neg he] at el
      rw [el]
      have he1 : ((e : Int) == 0) = false := by rw [beq_eq_false_iff_ne]; omega
      have he2 : ((e : Int) != 0) = true := by rw [bne_iff_ne]; omega
      clear el e5 he
      go_enter Tryd.func14, Tryd.ntmps14
      go_wp2_with fail
      refine wp_region_after (by kernel_rfl) (by kernel_rfl) ?_
      repeat (go_big_quiet_step ((go_at_call 10; exact Calls.after (CN.out _))))
      refine wpQuiet_nil ?_
      intro x
      have hbx := Below.blk x.is hb hlt
      have x1 := hbx.cell 1
      have y1 := hbx.free 1
      have y2 := hbx.free 2
      have x2 := hbx.cell 2
      simp [RS.cs] at x1 x2
      go_wp2_with fail
      go_returns
      exact ⟨rfl, (Upd.of x.is).set 2 _, hbx.set 2 _⟩
  · have e : RS.comp ⟨t, p, f⟩ most = (⟨t, p, f⟩, 0) := by unfold RS.comp; rw [if_neg hf]
    rw [e]
    have hf' : ((f : Int) != 0) = true := by rw [bne_iff_ne]; exact hf
    clear e hf
    go_enter Tryd.func14, Tryd.ntmps14
    go_wp2_with fail
    go_returns
    exact ⟨rfl, Upd.refl b w, hb⟩

set_option maxRecDepth 100000 in
theorem comp_read_nil (x : Int) (w : World) :
    Calls Tryd.prog 13 #[.pointer none, .int .u64 x] w fun e w' => e = .returned (.int .u64 0) ∧ w = w' := by
  go_enter Tryd.func13, Tryd.ntmps13
  go_wp2_with fail
  refine (cursor_fault_nil _).mono ?_
  rintro e w' ⟨rfl, rfl⟩
  go_wp2_with fail
  go_returns
  exact ⟨rfl, rfl⟩
end Go.Proofs.YtknokfofjhlkeaaDoor
