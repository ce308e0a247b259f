/- The document's reader. -/
import Derived.Test.YtknokfofjhlkeaaCursorCalls
import Derived.Lib.Strings
namespace Go.Proofs.Ytknokfofjhlkeaa
open Go.RowKit
set_option linter.unusedVariables false

/-- The document's reader in block b is r. -/
def IsX (w : World) (b : Nat) (r : RS) : Prop := Blk w b r.cs 64
def XPost (b : Nat) (w : World) (r : RS) (v : Value) : Ending → World → Prop := fun e w' => e = .returned v ∧ Upd b w w' ∧ IsX w' b r

set_option maxRecDepth 100000 in
theorem ref01_of (t : ByteArray) (w : World) :
    Calls Try.prog 39 #[.string t] w fun e w' => e = .returned (.pointer (some ⟨w.heap.size, 0, none⟩)) ∧ Below w.heap.size w w' ∧ w.heap.size < w'.heap.size ∧ IsX w' w.heap.size (RS.of t) := by
  go_enter Try.func39, Try.ntmps39
  go_wp2
  go_returns
  exact ⟨rfl, (Below.refl _ _).alloc (Nat.le_refl _) _, by simp, Blk.new _ _ _⟩

set_option maxRecDepth 100000 in
theorem ref01_left (b : Nat) (r : RS) (w : World) (hr : r.Ok) (hb : IsX w b r) :
    Calls Try.prog 42 #[.pointer (some ⟨b, 0, none⟩)] w fun e w' => e = .returned (.int .i64 ((r.t.size : Int) - r.p)) ∧ ∃ k, w' = w.drewN k := by
  obtain ⟨t, p, f⟩ := r
  obtain ⟨h1, h2⟩ := hr
  simp only at h1 h2
  have c0 := Blk.cell hb 0
  have c1 := Blk.cell hb 1
  simp [RS.cs] at c0 c1
  go_enter Try.func42, Try.ntmps42
  go_wp2
  go_quiet (fail)
  go_wp2
  go_returns
  exact ⟨rfl, _, rfl⟩

set_option maxRecDepth 100000 in
theorem ref01_fail (b : Nat) (r : RS) (x : Int) (w : World) (hb : IsX w b r) :
    Calls Try.prog 44 #[.pointer (some ⟨b, 0, none⟩), .int .i64 x] w (XPost b w (r.fail x) (.tuple #[])) := by
  obtain ⟨t, p, f⟩ := r
  have c2 := Blk.cell hb 2
  have f2 := Blk.free hb 2
  simp [RS.cs] at c2
  by_cases hf : f = 0
  · subst hf
    have e : RS.fail ⟨t, p, 0⟩ x = ⟨t, p, x⟩ := if_pos rfl
    rw [e]
    clear e
    go_enter Try.func44, Try.ntmps44
    go_wp2
    go_returns
    exact ⟨rfl, (Upd.refl b w).set 2 _, Blk.set hb 2 _⟩
  · have e : RS.fail ⟨t, p, f⟩ x = ⟨t, p, f⟩ := if_neg hf
    rw [e]
    have hf' : ((f : Int) == 0) = false := by rw [beq_eq_false_iff_ne]; exact hf
    clear e hf
    go_enter Try.func44, Try.ntmps44
    go_wp2
    go_returns
    exact ⟨rfl, Upd.refl b w, hb⟩

set_option maxRecDepth 100000 in
set_option maxHeartbeats 400000 in
theorem ref01_take (b : Nat) (r : RS) (n : Int) (w : World) (hr : r.Ok) (hb : IsX w b r) :
    Calls Try.prog 41 #[.pointer (some ⟨b, 0, none⟩), .int .i64 n] w (XPost b w (r.take n).1 (.string (r.take n).2)) := by
  have cl := Lib.hid (ref01_left b r w hr hb)
  obtain ⟨t, p, f⟩ := r
  obtain ⟨h1, h2⟩ := hr
  simp only at h1 h2 cl
  have c0 := Blk.cell hb 0
  have c1 := Blk.cell hb 1
  have c2 := Blk.cell hb 2
  have f1 := Blk.free hb 1
  have f2 := Blk.free hb 2
  simp [RS.cs] at c0 c1 c2
  by_cases hf : f = 0
  · subst hf
    by_cases hn : n < 0
    · have e : RS.take ⟨t, p, 0⟩ n = (⟨t, p, 1⟩, nostr) := by unfold RS.take; rw [if_pos rfl, if_pos hn]
      rw [e]
      clear e
      go_enter Try.func41, Try.ntmps41
      go_wp2
      go_returns
      exact ⟨rfl, (Upd.refl b w).set 2 _, Blk.set hb 2 _⟩
    · have hn' : decide (n < 0) = false := by simpa using hn
      by_cases h3 : (t.size : Int) - p < n
      · have e : RS.take ⟨t, p, 0⟩ n = (⟨t, p, 2⟩, nostr) := by unfold RS.take; rw [if_pos rfl, if_neg hn, if_pos h3]
        rw [e]
        clear e
        go_enter Try.func41, Try.ntmps41
        go_wp2_with fail
        refine cl.out.mono ?_
        rintro e w1 ⟨rfl, k, rfl⟩
        go_wp2_with fail
        go_returns
        exact ⟨rfl, ((Upd.refl b w).drewN k).set 2 _, (Blk.drewN hb k).set 2 _⟩
      · obtain ⟨m, rfl⟩ : ∃ m : Nat, n = m := ⟨n.toNat, by omega⟩
        have hle : p + m ≤ t.size := by omega
        have h3' : decide ((t.size : Int) - p < m) = false := by simpa using h3
        have e : RS.take ⟨t, p, 0⟩ m = (⟨t, p + m, 0⟩, t.extract p (p + m)) := by unfold RS.take; rw [if_pos rfl, if_neg hn, if_neg h3]; rfl
        rw [e]
        clear e h3 hn
        go_enter Try.func41, Try.ntmps41
        go_wp2_with fail
        refine cl.out.mono ?_
        rintro e w1 ⟨rfl, k, rfl⟩
        go_wp2_with fail
        go_quiet (fail)
        go_wp2_with fail
        go_returns
        exact ⟨rfl, ((Upd.refl b w).drewN _).set 1 _, (Blk.drewN hb _).set 1 _⟩
  · have e : RS.take ⟨t, p, f⟩ n = (⟨t, p, f⟩, nostr) := by unfold RS.take; rw [if_neg hf]
    rw [e]
    have hf' : ((f : Int) != 0) = true := by rw [bne_iff_ne]; exact hf
    clear e hf
    go_enter Try.func41, Try.ntmps41
    go_wp2
    go_returns
    exact ⟨rfl, Upd.refl b w, hb⟩

theorem byte_take (r : RS) (hr : r.Ok) : (r.take 1).1 = r.byte.1 ∧ ((r.take 1).2 = nostr ∧ r.byte.2 = 0 ∨ ∃ h : 0 < (r.take 1).2.size, r.byte.2 = (((r.take 1).2)[0].toNat : Int)) := by
  obtain ⟨t, p, f⟩ := r
  obtain ⟨h1, h2⟩ := hr
  simp only at h1 h2
  by_cases hf : f = 0
  · subst hf
    by_cases hp : p < t.size
    · have e : RS.byte ⟨t, p, 0⟩ = (⟨t, p + 1, 0⟩, (t[p].toNat : Int)) := by unfold RS.byte; rw [if_pos rfl, dif_pos hp]
      have e2 : RS.take ⟨t, p, 0⟩ 1 = (⟨t, p + 1, 0⟩, t.extract p (p + 1)) := by unfold RS.take; rw [if_pos rfl, if_neg (by omega), if_neg (by simp only []; omega)]; rfl
      rw [e, e2]
      refine ⟨rfl, .inr ⟨by simp only [ByteArray.size_extract]; omega, ?_⟩⟩
      have hx : 0 < (t.extract p (p + 1)).size := by rw [ByteArray.size_extract]; omega
      have : (t.extract p (p + 1))[0] = t[p + 0] := ByteArray.getElem_extract hx
      rw [this]
      rfl
    · have e : RS.byte ⟨t, p, 0⟩ = (⟨t, p, 2⟩, 0) := by unfold RS.byte; rw [if_pos rfl, dif_neg hp]
      have e2 : RS.take ⟨t, p, 0⟩ 1 = (⟨t, p, 2⟩, nostr) := by unfold RS.take; rw [if_pos rfl, if_neg (by omega), if_pos (by simp only []; omega)]
      rw [e, e2]
      exact ⟨rfl, .inl ⟨rfl, rfl⟩⟩
  · have e : RS.byte ⟨t, p, f⟩ = (⟨t, p, f⟩, 0) := by unfold RS.byte; rw [if_neg hf]
    have e2 : RS.take ⟨t, p, f⟩ 1 = (⟨t, p, f⟩, nostr) := by unfold RS.take; rw [if_neg hf]
    rw [e, e2]
    exact ⟨rfl, .inl ⟨rfl, rfl⟩⟩

set_option maxRecDepth 100000 in
theorem ref01_byte (b : Nat) (r : RS) (w : World) (hr : r.Ok) (hb : IsX w b r) :
    Calls Try.prog 40 #[.pointer (some ⟨b, 0, none⟩)] w (XPost b w r.byte.1 (.int .u8 r.byte.2)) := by
  have ct := Lib.hid (ref01_take b r 1 w hr hb)
  have bt := byte_take r hr
  generalize r.byte = y at *
  generalize r.take 1 = z at *
  obtain ⟨y1, y2⟩ := y
  obtain ⟨z1, z2⟩ := z
  obtain ⟨e1, e2⟩ := bt
  simp only at e1 e2
  subst e1
  rcases e2 with ⟨rfl, rfl⟩ | ⟨h, rfl⟩
  · go_enter Try.func40, Try.ntmps40
    go_wp2_with fail
    refine ct.out.mono ?_
    rintro e w1 ⟨rfl, hu, hb1⟩
    go_wp2_with fail
    go_returns
    exact ⟨rfl, hu, hb1⟩
  · have hne : z2.toList.isEmpty = false := by rw [Lib.toList_data]; cases hz : z2.data.toList with
      | nil => simp at hz; simp [ByteArray.size, hz] at h
      | cons a l => rfl
    go_enter Try.func40, Try.ntmps40
    go_wp2_with fail
    refine ct.out.mono ?_
    rintro e w1 ⟨rfl, hu, hb1⟩
    go_wp2_with fail
    go_returns
    exact ⟨rfl, hu, hb1⟩
end Go.Proofs.Ytknokfofjhlkeaa
