/- More methods of a reader; the document's reader. -/
import Derived.Test.YtemfecdpjegocaaCursorCalls
namespace Go.Proofs.Ytemfecdpjegocaa
open Go.RowKit
set_option linter.unusedVariables false

set_option maxRecDepth 100000 in
set_option maxHeartbeats 400000 in
theorem cursor_fail (b : Nat) (r : RS) (x : Int) (w : World) (hb : IsR w b r) :
    Calls Try.prog 71 #[.pointer (some ⟨b, 0, none⟩), .int .i64 x] w (RPost b w (r.fail x) (.tuple #[])) := by
  obtain ⟨t, p, f⟩ := r
  have hlt := Blk.lt hb
  have hmf : ∀ (fn : Fn) (first cap : Array Value) (w : World), (Instr.makeFunc fn first cap).run Try.prog w = .ok (.func fn first cap) w := fun _ _ _ _ => rfl
  have hb3 : IsR (w.alloc (.cells #[.int .i64 x] 24)) b ⟨t, p, f⟩ := Blk.alloc hb _
  have hu3 : Upd b w (w.alloc (.cells #[.int .i64 x] 24)) := (Upd.refl b w).alloc _
  have r0 : (w.alloc (.cells #[.int .i64 x] 24)).cell? ⟨w.heap.size, 0, none⟩ = some (.int .i64 x) := by simp [go_sem]
  by_cases hf : f = 0
  · subst hf
    have e : RS.fail ⟨t, p, 0⟩ x = ⟨t, p, x⟩ := if_pos rfl
    rw [e]
    have H := sound_Fail b 0 t p p x #[.pointer (some ⟨w.heap.size, 0, none⟩)] (fun _ => True) _ hb3 (fun _ _ _ _ => trivial)
      ((fail_step w.heap.size x _ r0).mono fun e w' ⟨he, hw⟩ => ⟨he, hw ▸ Upd.refl _ _, hw ▸ hb3, trivial⟩)
    have HH := Lib.hid H
    clear H r0 e hb3
    go_enter Try.func71, Try.ntmps71
    go_wp2_with fail
    refine HH.out.mono ?_
    rintro e w4 ⟨rfl, hu4, hb4, _⟩
    go_wp2_with fail
    go_returns
    exact ⟨rfl, hu3.trans hu4, hb4⟩
  · have e : RS.fail ⟨t, p, f⟩ x = ⟨t, p, f⟩ := if_neg hf
    rw [e]
    have hf' : ((f : Int) == 0) = false := by rw [beq_eq_false_iff_ne]; exact hf
    have HH := Lib.hid (fun v => sound_no b ⟨t, p, f⟩ v _ hf' hb3)
    clear e r0 hf
    go_enter Try.func71, Try.ntmps71
    go_wp2_with fail
    refine (HH.out _).mono ?_
    rintro e w4 ⟨rfl, rfl⟩
    go_wp2_with fail
    go_returns
    exact ⟨rfl, hu3, hb3⟩

set_option maxRecDepth 100000 in
theorem cursor_fail_nil (x : Int) (w : World) :
    Calls Try.prog 71 #[.pointer none, .int .i64 x] w fun e w' => e = .returned (.tuple #[]) ∧ Below w.heap.size w w' := by
  have hmf : ∀ (fn : Fn) (first cap : Array Value) (w : World), (Instr.makeFunc fn first cap).run Try.prog w = .ok (.func fn first cap) w := fun _ _ _ _ => rfl
  go_enter Try.func71, Try.ntmps71
  go_wp2_with fail
  refine (sound_nil _ _).mono ?_
  rintro e w4 ⟨rfl, rfl⟩
  go_wp2_with fail
  go_returns
  exact ⟨rfl, by go_grown⟩

set_option maxRecDepth 100000 in
theorem cursor_all (b : Nat) (r : RS) (w : World) (hr : r.Ok) (hb : IsR w b r) :
    Calls Try.prog 57 #[.pointer (some ⟨b, 0, none⟩)] w (RPost b w (r.take ((r.t.size : Int) - r.p)).1 (.string (r.take ((r.t.size : Int) - r.p)).2)) := by
  have c1 := Lib.hid (cursor_left b r w hr hb)
  have c2 := Lib.hid (fun k => cursor_take b r ((r.t.size : Int) - r.p) (w.drewN k) hr hb)
  generalize (r.t.size : Int) - r.p = n at *
  generalize r.take n = q at *
  go_enter Try.func57, Try.ntmps57
  go_wp2_with fail
  refine c1.out.mono ?_
  rintro e w1 ⟨rfl, k, rfl⟩
  go_wp2_with fail
  refine (c2.out k).mono ?_
  rintro e w2 ⟨rfl, hu, hb2⟩
  go_wp2_with fail
  go_returns
  exact ⟨rfl, ⟨hu.os, hu.tape, hu.output, hu.size, hu.block⟩, hb2⟩
set_option maxRecDepth 100000 in
theorem cursor_all_nil (w : World) :
    Calls Try.prog 57 #[.pointer none] w fun e w' => e = .returned (.string nostr) ∧ Below w.heap.size w w' := by
  go_enter Try.func57, Try.ntmps57
  go_wp2_with fail
  refine (cursor_left_nil _).mono ?_
  rintro e w1 ⟨rfl, rfl⟩
  go_wp2_with fail
  refine (cursor_take_nil _ _).mono ?_
  rintro e w2 ⟨rfl, hb2⟩
  go_wp2_with fail
  go_returns
  exact ⟨rfl, hb2⟩
end Go.Proofs.Ytemfecdpjegocaa
