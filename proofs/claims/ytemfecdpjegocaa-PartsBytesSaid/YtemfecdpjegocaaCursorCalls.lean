/- The methods of a reader. -/
import Derived.Test.YtemfecdpjegocaaCursorAhead
namespace Go.Proofs.Ytemfecdpjegocaa
open Go.RowKit
set_option linter.unusedVariables false

abbrev nostr : ByteArray := ⟨#[]⟩
def RS.of (t : ByteArray) : RS := ⟨t, 0, 0⟩
def RS.take (r : RS) (n : Int) : RS × ByteArray :=
  if r.f = 0 then
    if n < 0 then (⟨r.t, r.p, 1⟩, nostr) else if (r.t.size : Int) - r.p < n then (⟨r.t, r.p, 2⟩, nostr) else (⟨r.t, r.p + n.toNat, 0⟩, r.t.extract r.p (r.p + n.toNat))
  else (r, nostr)
def RS.byte (r : RS) : RS × Int :=
  if r.f = 0 then if h : r.p < r.t.size then (⟨r.t, r.p + 1, 0⟩, (r.t[r.p].toNat : Int)) else (⟨r.t, r.p, 2⟩, 0) else (r, 0)
def RS.ahead (r : RS) (n : Int) : ByteArray :=
  if r.f = 0 then if 0 < n then r.t.extract r.p (r.p + min n.toNat (r.t.size - r.p)) else nostr else nostr
def RS.fail (r : RS) (x : Int) : RS := if r.f = 0 then ⟨r.t, r.p, x⟩ else r

theorem RS.Ok.of {t : ByteArray} (h : t.size ≤ 9223372036854775807) : (RS.of t).Ok := ⟨Nat.zero_le _, h⟩
theorem RS.Ok.take {r : RS} (h : r.Ok) (n : Int) : (r.take n).1.Ok := by
  obtain ⟨h1, h2⟩ := h
  unfold RS.take
  split
  · split
    · exact ⟨h1, h2⟩
    · split
      · exact ⟨h1, h2⟩
      · exact ⟨by simp only []; omega, h2⟩
  · exact ⟨h1, h2⟩
theorem RS.Ok.byte {r : RS} (h : r.Ok) : r.byte.1.Ok := by
  obtain ⟨h1, h2⟩ := h
  unfold RS.byte
  split
  · split
    · exact ⟨by simp only []; omega, h2⟩
    · exact ⟨h1, h2⟩
  · exact ⟨h1, h2⟩
theorem RS.Ok.fail {r : RS} (h : r.Ok) (x : Int) : (r.fail x).Ok := by
  obtain ⟨h1, h2⟩ := h
  unfold RS.fail
  split <;> exact ⟨h1, h2⟩

/-- What a step on the reader in block b leaves. -/
def RPost (b : Nat) (w : World) (r : RS) (v : Value) : Ending → World → Prop := fun e w' => e = .returned v ∧ Upd b w w' ∧ IsR w' b r

set_option maxRecDepth 100000 in
theorem cursor_read (t : ByteArray) (w : World) :
    Calls Try.prog 53 #[.string t] w fun e w' => e = .returned (.pointer (some ⟨w.heap.size, 0, none⟩)) ∧ Below w.heap.size w w' ∧ w.heap.size < w'.heap.size ∧ IsR w' w.heap.size (RS.of t) := by
  go_enter Try.func53, Try.ntmps53
  go_wp2
  go_returns
  exact ⟨rfl, (Below.refl _ _).alloc (Nat.le_refl _) _, by simp, Blk.new _ _ _⟩

set_option maxRecDepth 100000 in
theorem cursor_fault (b : Nat) (r : RS) (w : World) (hb : IsR w b r) :
    Calls Try.prog 56 #[.pointer (some ⟨b, 0, none⟩)] w fun e w' => e = .returned (.int .i64 r.f) ∧ w = w' := by
  obtain ⟨t, p, f⟩ := r
  have c := Blk.cell hb 2
  simp [RS.cs] at c
  go_enter Try.func56, Try.ntmps56
  go_wp2
  go_returns
  exact ⟨rfl, rfl⟩

set_option maxRecDepth 100000 in
theorem cursor_left (b : Nat) (r : RS) (w : World) (hr : r.Ok) (hb : IsR w b r) :
    Calls Try.prog 73 #[.pointer (some ⟨b, 0, none⟩)] w fun e w' => e = .returned (.int .i64 ((r.t.size : Int) - r.p)) ∧ ∃ k, w' = w.drewN k := by
  obtain ⟨t, p, f⟩ := r
  obtain ⟨h1, h2⟩ := hr
  simp only at h1 h2
  have c0 := Blk.cell hb 0
  have c1 := Blk.cell hb 1
  simp [RS.cs] at c0 c1
  go_enter Try.func73, Try.ntmps73
  go_wp2
  go_quiet (fail)
  go_wp2
  go_returns
  exact ⟨rfl, _, rfl⟩

set_option maxRecDepth 100000 in
theorem cursor_fault_nil (w : World) :
    Calls Try.prog 56 #[.pointer none] w fun e w' => e = .returned (.int .i64 1) ∧ w = w' := by
  go_enter Try.func56, Try.ntmps56
  go_wp2
  go_returns
  exact ⟨rfl, rfl⟩

set_option maxRecDepth 100000 in
theorem cursor_left_nil (w : World) :
    Calls Try.prog 73 #[.pointer none] w fun e w' => e = .returned (.int .i64 0) ∧ w = w' := by
  go_enter Try.func73, Try.ntmps73
  go_wp2
  go_returns
  exact ⟨rfl, rfl⟩

set_option maxRecDepth 100000 in
set_option maxHeartbeats 400000 in
theorem cursor_take (b : Nat) (r : RS) (n : Int) (w : World) (hr : r.Ok) (hb : IsR w b r) :
    Calls Try.prog 72 #[.pointer (some ⟨b, 0, none⟩), .int .i64 n] w (RPost b w (r.take n).1 (.string (r.take n).2)) := by
  obtain ⟨t, p, f⟩ := r
  obtain ⟨h1, h2⟩ := hr
  simp only at h1 h2
  have hlt := Blk.lt hb
  have hmf : ∀ (fn : Fn) (first cap : Array Value) (w : World), (Instr.makeFunc fn first cap).run Try.prog w = .ok (.func fn first cap) w := fun _ _ _ _ => rfl
  obtain ⟨w3, hw3⟩ : ∃ w3, w3 = (((w.alloc (.cells #[.pointer (some ⟨b, 0, none⟩)] 111)).alloc (.cells #[.int .i64 n] 3)).alloc (.cells #[.string nostr] 9)) := ⟨_, rfl⟩
  have hb3 : IsR w3 b ⟨t, p, f⟩ := by rw [hw3]; exact ((Blk.alloc hb _).alloc _).alloc _
  have hu3 : Upd b w w3 := by rw [hw3]; exact (((Upd.refl b w).alloc _).alloc _).alloc _
  have r0 : w3.cell? ⟨w.heap.size, 0, none⟩ = some (.pointer (some ⟨b, 0, none⟩)) := by rw [hw3]; simp [go_sem]
  have r1 : w3.cell? ⟨w.heap.size + 1, 0, none⟩ = some (.int .i64 n) := by rw [hw3]; simp [go_sem]
  have r2 : Blk w3 (w.heap.size + 2) #[.string nostr] 9 := by
    rw [hw3]
    have := Blk.new ((w.alloc (.cells #[.pointer (some ⟨b, 0, none⟩)] 111)).alloc (.cells #[.int .i64 n] 3)) #[.string nostr] 9
    rw [World.size_alloc, World.size_alloc] at this
    exact this
  by_cases hf : f = 0
  · subst hf
    by_cases hn : n < 0
    · have e : RS.take ⟨t, p, 0⟩ n = (⟨t, p, 1⟩, nostr) := by unfold RS.take; rw [if_pos rfl, if_pos hn]
      rw [e]
      clear e
      have H := sound_Take b (w.heap.size + 2) t p p 1 #[.pointer (some ⟨w.heap.size + 1, 0, none⟩), .pointer (some ⟨w.heap.size, 0, none⟩), .pointer (some ⟨w.heap.size + 2, 0, none⟩)] (fun w' => Blk w' (w.heap.size + 2) #[.string (nostr)] 9) w3 hb3
        (fun w' i v h => h.setOther (by simp; omega) v) ((take_neg b _ _ _ n w3 hn r1).mono fun e w' ⟨he, hw⟩ => ⟨he, hw ▸ Upd2.refl _ _ _, hw ▸ hb3, hw ▸ r2⟩)
      have HH := Lib.hid H
      clear H r0 r1
      rw [hw3] at HH hu3
      have q0 := r2.cell 0
      rw [hw3] at q0
      clear r2 hb3
      go_enter Try.func72, Try.ntmps72
      go_wp2_with fail
      refine HH.out.mono ?_
      rintro e w4 ⟨rfl, hu4, hb4, hq4⟩
      have q4 := hq4.cell 0
      simp at q4
      go_wp2_with fail
      go_returns
      exact ⟨rfl, hu4.upd hu3 (by omega), hb4⟩
    by_cases h3 : (t.size : Int) - p < n
    · have e : RS.take ⟨t, p, 0⟩ n = (⟨t, p, 2⟩, nostr) := by unfold RS.take; rw [if_pos rfl, if_neg hn, if_pos h3]
      rw [e]
      clear e
      have H := sound_Take b (w.heap.size + 2) t p p 2 #[.pointer (some ⟨w.heap.size + 1, 0, none⟩), .pointer (some ⟨w.heap.size, 0, none⟩), .pointer (some ⟨w.heap.size + 2, 0, none⟩)] (fun w' => Blk w' (w.heap.size + 2) #[.string (nostr)] 9) w3 hb3
        (fun w' i v h => h.setOther (by simp; omega) v) ((take_over b _ _ _ t p 0 n w3 h1 h2 (by omega) h3 hb3 r1 r0).mono fun e w' ⟨he, k, hw⟩ => ⟨he, hw ▸ (Upd2.refl _ _ _).drewN k, hw ▸ hb3, hw ▸ r2⟩)
      have HH := Lib.hid H
      clear H r0 r1
      rw [hw3] at HH hu3
      have q0 := r2.cell 0
      rw [hw3] at q0
      clear r2 hb3
      go_enter Try.func72, Try.ntmps72
      go_wp2_with fail
      refine HH.out.mono ?_
      rintro e w4 ⟨rfl, hu4, hb4, hq4⟩
      have q4 := hq4.cell 0
      simp at q4
      go_wp2_with fail
      go_returns
      exact ⟨rfl, hu4.upd hu3 (by omega), hb4⟩
    obtain ⟨m, rfl⟩ : ∃ m : Nat, n = m := ⟨n.toNat, by omega⟩
    have e : RS.take ⟨t, p, 0⟩ m = (⟨t, p + m, 0⟩, t.extract p (p + m)) := by unfold RS.take; rw [if_pos rfl, if_neg hn, if_neg h3]; rfl
    rw [e]
    clear e
    have H := sound_Take b (w.heap.size + 2) t p (p + m) 0 #[.pointer (some ⟨w.heap.size + 1, 0, none⟩), .pointer (some ⟨w.heap.size, 0, none⟩), .pointer (some ⟨w.heap.size + 2, 0, none⟩)] (fun w' => Blk w' (w.heap.size + 2) #[.string (t.extract p (p + m))] 9) w3 hb3
      (fun w' i v h => h.setOther (by simp; omega) v) (take_ok b _ _ _ t p m 0 w3 h2 (by omega) (by omega) (by omega) (by omega) hb3 r2 r1 r0)
    have HH := Lib.hid H
    clear H r0 r1
    rw [hw3] at HH hu3
    have q0 := r2.cell 0
    rw [hw3] at q0
    clear r2 hb3
    go_enter Try.func72, Try.ntmps72
    go_wp2_with fail
    refine HH.out.mono ?_
    rintro e w4 ⟨rfl, hu4, hb4, hq4⟩
    have q4 := hq4.cell 0
    simp at q4
    go_wp2_with fail
    go_returns
    exact ⟨rfl, hu4.upd hu3 (by omega), hb4⟩
  · have e : RS.take ⟨t, p, f⟩ n = (⟨t, p, f⟩, nostr) := by unfold RS.take; rw [if_neg hf]
    rw [e]
    have hf' : ((f : Int) == 0) = false := by rw [beq_eq_false_iff_ne]; exact hf
    clear e
    have HH := Lib.hid (fun v => sound_no b ⟨t, p, f⟩ v w3 hf' hb3)
    rw [hw3] at HH hu3 hb3
    have q0 := r2.cell 0
    rw [hw3] at q0
    clear r2 r0 r1 hf
    go_enter Try.func72, Try.ntmps72
    go_wp2_with fail
    refine (HH.out _).mono ?_
    rintro e w4 ⟨rfl, rfl⟩
    go_wp2_with fail
    go_returns
    exact ⟨rfl, hu3, hb3⟩

set_option maxRecDepth 100000 in
theorem cursor_take_nil (n : Int) (w : World) :
    Calls Try.prog 72 #[.pointer none, .int .i64 n] w fun e w' => e = .returned (.string nostr) ∧ Below w.heap.size w w' := by
  have hmf : ∀ (fn : Fn) (first cap : Array Value) (w : World), (Instr.makeFunc fn first cap).run Try.prog w = .ok (.func fn first cap) w := fun _ _ _ _ => rfl
  go_enter Try.func72, Try.ntmps72
  go_wp2_with fail
  refine (sound_nil _ _).mono ?_
  rintro e w4 ⟨rfl, rfl⟩
  go_wp2_with fail
  go_returns
  exact ⟨rfl, by go_grown⟩

set_option maxRecDepth 100000 in
set_option maxHeartbeats 400000 in
theorem cursor_ahead (b : Nat) (r : RS) (n : Int) (w : World) (hr : r.Ok) (hb : IsR w b r) :
    Calls Try.prog 70 #[.pointer (some ⟨b, 0, none⟩), .int .i64 n] w (RPost b w r (.string (r.ahead n))) := by
  obtain ⟨t, p, f⟩ := r
  obtain ⟨h1, h2⟩ := hr
  simp only at h1 h2
  have hlt := Blk.lt hb
  have hmf : ∀ (fn : Fn) (first cap : Array Value) (w : World), (Instr.makeFunc fn first cap).run Try.prog w = .ok (.func fn first cap) w := fun _ _ _ _ => rfl
  obtain ⟨w3, hw3⟩ : ∃ w3, w3 = (((w.alloc (.cells #[.pointer (some ⟨b, 0, none⟩)] 111)).alloc (.cells #[.int .i64 n] 3)).alloc (.cells #[.string nostr] 9)) := ⟨_, rfl⟩
  have hb3 : IsR w3 b ⟨t, p, f⟩ := by rw [hw3]; exact ((Blk.alloc hb _).alloc _).alloc _
  have hu3 : Upd b w w3 := by rw [hw3]; exact (((Upd.refl b w).alloc _).alloc _).alloc _
  have r0 : w3.cell? ⟨w.heap.size, 0, none⟩ = some (.pointer (some ⟨b, 0, none⟩)) := by rw [hw3]; simp [go_sem]
  have r1 : w3.cell? ⟨w.heap.size + 1, 0, none⟩ = some (.int .i64 n) := by rw [hw3]; simp [go_sem]
  have r2 : Blk w3 (w.heap.size + 2) #[.string nostr] 9 := by
    rw [hw3]
    have := Blk.new ((w.alloc (.cells #[.pointer (some ⟨b, 0, none⟩)] 111)).alloc (.cells #[.int .i64 n] 3)) #[.string nostr] 9
    rw [World.size_alloc, World.size_alloc] at this
    exact this
  by_cases hf : f = 0
  · subst hf
    by_cases hn : 0 < n
    · have e : RS.ahead ⟨t, p, 0⟩ n = t.extract p (p + min n.toNat (t.size - p)) := by unfold RS.ahead; rw [if_pos rfl, if_pos hn]
      rw [e]
      clear e
      obtain ⟨m, hm⟩ : ∃ m, m = min n.toNat (t.size - p) := ⟨_, rfl⟩
      rw [← hm]
      have H := sound_Ahead b (w.heap.size + 2) t p p 0 #[.pointer (some ⟨w.heap.size + 1, 0, none⟩), .pointer (some ⟨w.heap.size, 0, none⟩), .pointer (some ⟨w.heap.size + 2, 0, none⟩)] (fun w' => Blk w' (w.heap.size + 2) #[.string (t.extract p (p + m))] 9) w3 hb3
        (fun w' i v h => h.setOther (by simp; omega) v) (ahead_ok b _ _ _ t p m 0 n w3 h2 h1 hn hm (by omega) hb3 r2 r1 r0)
      have HH := Lib.hid H
      clear H r0 r1 hm
      rw [hw3] at HH hu3
      have q0 := r2.cell 0
      rw [hw3] at q0
      clear r2 hb3
      go_enter Try.func70, Try.ntmps70
      go_wp2_with fail
      refine HH.out.mono ?_
      rintro e w4 ⟨rfl, hu4, hb4, hq4⟩
      have q4 := hq4.cell 0
      simp at q4
      go_wp2_with fail
      go_returns
      exact ⟨rfl, hu4.upd hu3 (by omega), hb4⟩
    have e : RS.ahead ⟨t, p, 0⟩ n = nostr := by unfold RS.ahead; rw [if_pos rfl, if_neg hn]
    rw [e]
    clear e
    have H := sound_Ahead b (w.heap.size + 2) t p p 0 #[.pointer (some ⟨w.heap.size + 1, 0, none⟩), .pointer (some ⟨w.heap.size, 0, none⟩), .pointer (some ⟨w.heap.size + 2, 0, none⟩)] (fun w' => Blk w' (w.heap.size + 2) #[.string (nostr)] 9) w3 hb3
      (fun w' i v h => h.setOther (by simp; omega) v) ((ahead_none b _ _ _ n w3 hn r1).mono fun e w' ⟨he, hw⟩ => ⟨he, hw ▸ Upd2.refl _ _ _, hw ▸ hb3, hw ▸ r2⟩)
    have HH := Lib.hid H
    clear H r0 r1
    rw [hw3] at HH hu3
    have q0 := r2.cell 0
    rw [hw3] at q0
    clear r2 hb3
    go_enter Try.func70, Try.ntmps70
    go_wp2_with fail
    refine HH.out.mono ?_
    rintro e w4 ⟨rfl, hu4, hb4, hq4⟩
    have q4 := hq4.cell 0
    simp at q4
    go_wp2_with fail
    go_returns
    exact ⟨rfl, hu4.upd hu3 (by omega), hb4⟩
  · have e : RS.ahead ⟨t, p, f⟩ n = nostr := by unfold RS.ahead; rw [if_neg hf]
    rw [e]
    have hf' : ((f : Int) == 0) = false := by rw [beq_eq_false_iff_ne]; exact hf
    clear e
    have HH := Lib.hid (fun v => sound_no b ⟨t, p, f⟩ v w3 hf' hb3)
    rw [hw3] at HH hu3 hb3
    have q0 := r2.cell 0
    rw [hw3] at q0
    clear r2 r0 r1 hf
    go_enter Try.func70, Try.ntmps70
    go_wp2_with fail
    refine (HH.out _).mono ?_
    rintro e w4 ⟨rfl, rfl⟩
    go_wp2_with fail
    go_returns
    exact ⟨rfl, hu3, hb3⟩

set_option maxRecDepth 100000 in
theorem cursor_ahead_nil (n : Int) (w : World) :
    Calls Try.prog 70 #[.pointer none, .int .i64 n] w fun e w' => e = .returned (.string nostr) ∧ Below w.heap.size w w' := by
  have hmf : ∀ (fn : Fn) (first cap : Array Value) (w : World), (Instr.makeFunc fn first cap).run Try.prog w = .ok (.func fn first cap) w := fun _ _ _ _ => rfl
  go_enter Try.func70, Try.ntmps70
  go_wp2_with fail
  refine (sound_nil _ _).mono ?_
  rintro e w4 ⟨rfl, rfl⟩
  go_wp2_with fail
  go_returns
  exact ⟨rfl, by go_grown⟩
end Go.Proofs.Ytemfecdpjegocaa
