/- The methods of a meter. -/
import Derived.Test.YtknokfofjhlkeaaMeter
namespace Go.Proofs.Ytknokfofjhlkeaa
open Go.RowKit
set_option linter.unusedVariables false

/-- A meter's counts. -/
structure MS where
  mo : Int
  us : Int
  ta : Int
  to : Int
structure MS.Ok (m : MS) : Prop where
  a : 0 ≤ m.us
  b : m.us ≤ m.to
  c : m.to ≤ m.mo
  d : m.mo ≤ 9223372036854775807
  e : 0 ≤ m.ta
  f : m.ta ≤ 9223372036854775807
def MS.cs (m : MS) : Array Value := mcs m.mo m.us m.ta m.to
def MS.new (n : Int) : MS := ⟨if n < 0 then 0 else n, 0, 0, 0⟩
def MS.take (m : MS) (n : Int) : MS × Int :=
  if n < 0 then (m, 1) else if m.mo - m.us < n ∨ 9223372036854775807 - m.ta < n then (m, 5) else (⟨m.mo, m.us + n, m.ta + n, maxI m.to (m.us + n)⟩, 0)
def MS.give (m : MS) (n : Int) : MS × Int :=
  if n < 0 then (m, 1) else if m.us < n then (m, 1) else (⟨m.mo, m.us - n, m.ta, maxI m.to (m.us - n)⟩, 0)
def MS.clear (m : MS) : MS := ⟨m.mo, m.us, 0, m.us⟩

theorem MS.Ok.new (n : Int) (h : n ≤ 9223372036854775807) : (MS.new n).Ok := by
  unfold MS.new
  constructor <;> (simp only []; try split) <;> omega
theorem MS.Ok.take {m : MS} (h : m.Ok) (n : Int) : (m.take n).1.Ok := by
  obtain ⟨a, b, c, d, e, f⟩ := h
  unfold MS.take maxI
  split
  · exact ⟨a, b, c, d, e, f⟩
  · split
    · exact ⟨a, b, c, d, e, f⟩
    · constructor <;> (simp only []; try split) <;> omega
theorem MS.Ok.give {m : MS} (h : m.Ok) (n : Int) : (m.give n).1.Ok := by
  obtain ⟨a, b, c, d, e, f⟩ := h
  unfold MS.give maxI
  split
  · exact ⟨a, b, c, d, e, f⟩
  · split
    · exact ⟨a, b, c, d, e, f⟩
    · constructor <;> (simp only []; try split) <;> omega
theorem MS.Ok.clear {m : MS} (h : m.Ok) : m.clear.Ok := by
  obtain ⟨a, b, c, d, e, f⟩ := h
  unfold MS.clear
  constructor <;> simp only [] <;> omega

/-- The meter in block b is m. -/
def IsM (w : World) (b : Nat) (m : MS) : Prop := Blk w b m.cs 72
/-- What a step on the meter in block b leaves. -/
def MPost (b : Nat) (w : World) (r : MS × Int) : Ending → World → Prop := fun e w' => e = .returned (.int .i64 r.2) ∧ Upd b w w' ∧ IsM w' b r.1

theorem meter_new' (n : Int) (w : World) :
    Calls Try.prog 19 #[.int .i64 n] w fun e w' => e = .returned (.pointer (some ⟨w.heap.size, 0, none⟩)) ∧ Below w.heap.size w w' ∧ w.heap.size < w'.heap.size ∧ IsM w' w.heap.size (MS.new n) := by
  refine (meter_new n w).mono fun e w' ⟨he, hw⟩ => ⟨he, ?_⟩
  subst hw
  exact ⟨(Below.refl _ _).alloc (Nat.le_refl _) _, by simp, Blk.new _ _ _⟩

set_option maxRecDepth 100000 in
set_option maxHeartbeats 400000 in
theorem meter_take (b : Nat) (m : MS) (n : Int) (w : World) (hm : m.Ok) (hb : IsM w b m) :
    Calls Try.prog 20 #[.pointer (some ⟨b, 0, none⟩), .int .i64 n] w (MPost b w (m.take n)) := by
  obtain ⟨mo, us, ta, to⟩ := m
  obtain ⟨a, b', c, d, e, f⟩ := hm
  simp only at a b' c d e f
  have hb1 : Blk w b (mcs mo us ta to) 72 := hb
  have hlt := hb1.lt
  have hmf : ∀ (fn : Fn) (first cap : Array Value) (w : World), (Instr.makeFunc fn first cap).run Try.prog w = .ok (.func fn first cap) w := fun _ _ _ _ => rfl
  have hb2 : Blk ((w.alloc (.cells #[.pointer (some ⟨b, 0, none⟩)] 33)).alloc (.cells #[.int .i64 n] 3)) b (mcs mo us ta to) 72 := (hb1.alloc _).alloc _
  have hp : ((w.alloc (.cells #[.pointer (some ⟨b, 0, none⟩)] 33)).alloc (.cells #[.int .i64 n] 3)).cell? ⟨w.heap.size + 1, 0, none⟩ = some (.int .i64 n) := by simp [go_sem]
  have hq : ((w.alloc (.cells #[.pointer (some ⟨b, 0, none⟩)] 33)).alloc (.cells #[.int .i64 n] 3)).cell? ⟨w.heap.size, 0, none⟩ = some (.pointer (some ⟨b, 0, none⟩)) := by simp [go_sem]
  have hu : Upd b w ((w.alloc (.cells #[.pointer (some ⟨b, 0, none⟩)] 33)).alloc (.cells #[.int .i64 n] 3)) := ((Upd.refl b w).alloc _).alloc _
  by_cases hn : n < 0
  · have e : MS.take ⟨mo, us, ta, to⟩ n = (⟨mo, us, ta, to⟩, 1) := if_pos hn
    rw [e]
    clear e hb2 hp hq
    go_enter Try.func20, Try.ntmps20
    go_wp2_with (go_at_call 49; go_in)
    go_returns
    exact ⟨rfl, hu, (hb1.alloc _).alloc _⟩
  · have hn' : 0 ≤ n := by omega
    have H1 := take1 b (w.heap.size + 1) w.heap.size mo us ta to n _ (by omega) (by omega) (by omega) (by omega) (by omega) hb2 hp hq
    by_cases d1 : mo - us < n ∨ 9223372036854775807 - ta < n
    · have e : MS.take ⟨mo, us, ta, to⟩ n = (⟨mo, us, ta, to⟩, 5) := by unfold MS.take; rw [if_neg hn, if_pos d1]
      have e2 : takeErr mo us ta n = 5 := if_pos d1
      rw [e]
      rw [e2] at H1
      have H := move_no_Take b mo us ta to n 5 _ #[.pointer (some ⟨w.heap.size, 0, none⟩), .pointer (some ⟨w.heap.size + 1, 0, none⟩)] _ hn' (by decide) hb2 H1
      clear hb2 hp hq e e2 d1 H1
      have H' := Lib.hid H
      clear H
      go_enter Try.func20, Try.ntmps20
      go_wp2_with fail
      refine H'.out.mono ?_
      rintro e w2 ⟨rfl, hu2, hb3⟩
      go_wp2_with fail
      go_returns
      exact ⟨rfl, hu.trans hu2, hb3⟩
    · have e : MS.take ⟨mo, us, ta, to⟩ n = (⟨mo, us + n, ta + n, maxI to (us + n)⟩, 0) := by unfold MS.take; rw [if_neg hn, if_neg d1]
      have e2 : takeErr mo us ta n = 0 := if_neg d1
      rw [e]
      rw [e2] at H1
      have H := move_ok_Take b mo us ta to (us + n) (ta + n) n _ _ _ hn' hb2 H1 fun k => take2 b (w.heap.size + 1) w.heap.size mo us ta to n _ (by omega) (by omega) (by omega) (by omega) (by omega) (by omega) hb2 hp hq
      clear hb2 hp hq e e2 d1 H1
      have H' := Lib.hid H
      clear H
      go_enter Try.func20, Try.ntmps20
      go_wp2_with fail
      refine H'.out.mono ?_
      rintro e w2 ⟨rfl, hu2, hb3⟩
      go_wp2_with fail
      go_returns
      exact ⟨rfl, hu.trans hu2, hb3⟩

set_option maxRecDepth 100000 in
/-- Where there is no meter. -/
theorem meter_take_nil (n : Int) (w : World) :
    Calls Try.prog 20 #[.pointer none, .int .i64 n] w fun e w' => e = .returned (.int .i64 1) ∧ Below w.heap.size w w' := by
  have hmf : ∀ (fn : Fn) (first cap : Array Value) (w : World), (Instr.makeFunc fn first cap).run Try.prog w = .ok (.func fn first cap) w := fun _ _ _ _ => rfl
  go_enter Try.func20, Try.ntmps20
  go_wp2_with (go_at_call 49; go_in)
  go_returns
  exact ⟨rfl, ((Below.refl _ _).alloc (Nat.le_refl _) _).alloc (by simp) _⟩

set_option maxRecDepth 100000 in
set_option maxHeartbeats 400000 in
theorem meter_give (b : Nat) (m : MS) (n : Int) (w : World) (hm : m.Ok) (hb : IsM w b m) :
    Calls Try.prog 24 #[.pointer (some ⟨b, 0, none⟩), .int .i64 n] w (MPost b w (m.give n)) := by
  obtain ⟨mo, us, ta, to⟩ := m
  obtain ⟨a, b', c, d, e, f⟩ := hm
  simp only at a b' c d e f
  have hb1 : Blk w b (mcs mo us ta to) 72 := hb
  have hlt := hb1.lt
  have hmf : ∀ (fn : Fn) (first cap : Array Value) (w : World), (Instr.makeFunc fn first cap).run Try.prog w = .ok (.func fn first cap) w := fun _ _ _ _ => rfl
  have hb2 : Blk ((w.alloc (.cells #[.pointer (some ⟨b, 0, none⟩)] 33)).alloc (.cells #[.int .i64 n] 3)) b (mcs mo us ta to) 72 := (hb1.alloc _).alloc _
  have hp : ((w.alloc (.cells #[.pointer (some ⟨b, 0, none⟩)] 33)).alloc (.cells #[.int .i64 n] 3)).cell? ⟨w.heap.size + 1, 0, none⟩ = some (.int .i64 n) := by simp [go_sem]
  have hq : ((w.alloc (.cells #[.pointer (some ⟨b, 0, none⟩)] 33)).alloc (.cells #[.int .i64 n] 3)).cell? ⟨w.heap.size, 0, none⟩ = some (.pointer (some ⟨b, 0, none⟩)) := by simp [go_sem]
  have hu : Upd b w ((w.alloc (.cells #[.pointer (some ⟨b, 0, none⟩)] 33)).alloc (.cells #[.int .i64 n] 3)) := ((Upd.refl b w).alloc _).alloc _
  by_cases hn : n < 0
  · have e : MS.give ⟨mo, us, ta, to⟩ n = (⟨mo, us, ta, to⟩, 1) := if_pos hn
    rw [e]
    clear e hb2 hp hq
    go_enter Try.func24, Try.ntmps24
    go_wp2_with (go_at_call 49; go_in)
    go_returns
    exact ⟨rfl, hu, (hb1.alloc _).alloc _⟩
  · have hn' : 0 ≤ n := by omega
    have H1 := give1 b (w.heap.size + 1) w.heap.size mo us ta to n _  hb2 hp hq
    by_cases d1 : us < n
    · have e : MS.give ⟨mo, us, ta, to⟩ n = (⟨mo, us, ta, to⟩, 1) := by unfold MS.give; rw [if_neg hn, if_pos d1]
      have e2 : giveErr us n = 1 := if_pos d1
      rw [e]
      rw [e2] at H1
      have H := move_no_Give b mo us ta to n 1 _ #[.pointer (some ⟨w.heap.size, 0, none⟩), .pointer (some ⟨w.heap.size + 1, 0, none⟩)] _ hn' (by decide) hb2 H1
      clear hb2 hp hq e e2 d1 H1
      have H' := Lib.hid H
      clear H
      go_enter Try.func24, Try.ntmps24
      go_wp2_with fail
      refine H'.out.mono ?_
      rintro e w2 ⟨rfl, hu2, hb3⟩
      go_wp2_with fail
      go_returns
      exact ⟨rfl, hu.trans hu2, hb3⟩
    · have e : MS.give ⟨mo, us, ta, to⟩ n = (⟨mo, us - n, ta, maxI to (us - n)⟩, 0) := by unfold MS.give; rw [if_neg hn, if_neg d1]
      have e2 : giveErr us n = 0 := if_neg d1
      rw [e]
      rw [e2] at H1
      have H := move_ok_Give b mo us ta to (us - n) (ta) n _ _ _ hn' hb2 H1 fun k => give2 b (w.heap.size + 1) w.heap.size mo us ta to n _ (by omega) (by omega) (by omega) (by omega) hb2 hp hq
      clear hb2 hp hq e e2 d1 H1
      have H' := Lib.hid H
      clear H
      go_enter Try.func24, Try.ntmps24
      go_wp2_with fail
      refine H'.out.mono ?_
      rintro e w2 ⟨rfl, hu2, hb3⟩
      go_wp2_with fail
      go_returns
      exact ⟨rfl, hu.trans hu2, hb3⟩

set_option maxRecDepth 100000 in
/-- Where there is no meter. -/
theorem meter_give_nil (n : Int) (w : World) :
    Calls Try.prog 24 #[.pointer none, .int .i64 n] w fun e w' => e = .returned (.int .i64 1) ∧ Below w.heap.size w w' := by
  have hmf : ∀ (fn : Fn) (first cap : Array Value) (w : World), (Instr.makeFunc fn first cap).run Try.prog w = .ok (.func fn first cap) w := fun _ _ _ _ => rfl
  go_enter Try.func24, Try.ntmps24
  go_wp2_with (go_at_call 49; go_in)
  go_returns
  exact ⟨rfl, ((Below.refl _ _).alloc (Nat.le_refl _) _).alloc (by simp) _⟩

set_option maxRecDepth 100000 in
theorem meter_us (b : Nat) (m : MS) (w : World) (hb : IsM w b m) :
    Calls Try.prog 21 #[.pointer (some ⟨b, 0, none⟩)] w fun e w' => e = .returned (.int .i64 m.us) ∧ w = w' := by
  have c := Blk.cell hb 1
  simp [MS.cs, mcs] at c
  go_enter Try.func21, Try.ntmps21
  go_wp2
  go_returns
  exact ⟨rfl, rfl⟩
set_option maxRecDepth 100000 in
theorem meter_us_nil (w : World) :
    Calls Try.prog 21 #[.pointer none] w fun e w' => e = .returned (.int .i64 0) ∧ w = w' := by
  go_enter Try.func21, Try.ntmps21
  go_wp2
  go_returns
  exact ⟨rfl, rfl⟩

set_option maxRecDepth 100000 in
theorem meter_ta (b : Nat) (m : MS) (w : World) (hb : IsM w b m) :
    Calls Try.prog 22 #[.pointer (some ⟨b, 0, none⟩)] w fun e w' => e = .returned (.int .i64 m.ta) ∧ w = w' := by
  have c := Blk.cell hb 2
  simp [MS.cs, mcs] at c
  go_enter Try.func22, Try.ntmps22
  go_wp2
  go_returns
  exact ⟨rfl, rfl⟩
set_option maxRecDepth 100000 in
theorem meter_ta_nil (w : World) :
    Calls Try.prog 22 #[.pointer none] w fun e w' => e = .returned (.int .i64 0) ∧ w = w' := by
  go_enter Try.func22, Try.ntmps22
  go_wp2
  go_returns
  exact ⟨rfl, rfl⟩

set_option maxRecDepth 100000 in
theorem meter_to (b : Nat) (m : MS) (w : World) (hb : IsM w b m) :
    Calls Try.prog 23 #[.pointer (some ⟨b, 0, none⟩)] w fun e w' => e = .returned (.int .i64 m.to) ∧ w = w' := by
  have c := Blk.cell hb 3
  simp [MS.cs, mcs] at c
  go_enter Try.func23, Try.ntmps23
  go_wp2
  go_returns
  exact ⟨rfl, rfl⟩
set_option maxRecDepth 100000 in
theorem meter_to_nil (w : World) :
    Calls Try.prog 23 #[.pointer none] w fun e w' => e = .returned (.int .i64 0) ∧ w = w' := by
  go_enter Try.func23, Try.ntmps23
  go_wp2
  go_returns
  exact ⟨rfl, rfl⟩

set_option maxRecDepth 100000 in
theorem meter_mo (b : Nat) (m : MS) (w : World) (hb : IsM w b m) :
    Calls Try.prog 38 #[.pointer (some ⟨b, 0, none⟩)] w fun e w' => e = .returned (.int .i64 m.mo) ∧ w = w' := by
  have c := Blk.cell hb 0
  simp [MS.cs, mcs] at c
  go_enter Try.func38, Try.ntmps38
  go_wp2
  go_returns
  exact ⟨rfl, rfl⟩
set_option maxRecDepth 100000 in
theorem meter_mo_nil (w : World) :
    Calls Try.prog 38 #[.pointer none] w fun e w' => e = .returned (.int .i64 0) ∧ w = w' := by
  go_enter Try.func38, Try.ntmps38
  go_wp2
  go_returns
  exact ⟨rfl, rfl⟩

set_option maxRecDepth 100000 in
theorem meter_clear (b : Nat) (m : MS) (w : World) (hb : IsM w b m) :
    Calls Try.prog 35 #[.pointer (some ⟨b, 0, none⟩)] w fun e w' => e = .returned (.tuple #[]) ∧ Upd b w w' ∧ IsM w' b m.clear := by
  have c1 := Blk.cell hb 1
  have c2 := Blk.cell hb 2
  have c3 := Blk.cell hb 3
  have f2 := Blk.free hb 2
  have f3 := Blk.free hb 3
  simp [MS.cs, mcs] at c1 c2 c3
  go_enter Try.func35, Try.ntmps35
  go_wp2
  go_returns
  exact ⟨rfl, ((Upd.refl b w).set 2 _).set 3 _, (Blk.set hb 2 _).set 3 _⟩
set_option maxRecDepth 100000 in
theorem meter_clear_nil (w : World) :
    Calls Try.prog 35 #[.pointer none] w fun e w' => e = .returned (.tuple #[]) ∧ w = w' := by
  go_enter Try.func35, Try.ntmps35
  go_wp2
  go_returns
  exact ⟨rfl, rfl⟩
end Go.Proofs.Ytknokfofjhlkeaa
