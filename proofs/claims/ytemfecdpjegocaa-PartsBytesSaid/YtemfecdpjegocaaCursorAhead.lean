/- The steps of Ahead and Fail; how a step is taken. -/
import Derived.Test.YtemfecdpjegocaaCursor
import Derived.Test.YtemfecdpjegocaaTail
namespace Go.Proofs.Ytemfecdpjegocaa
open Go.RowKit
set_option linter.unusedVariables false

set_option maxRecDepth 100000 in
theorem ahead_none (b pn pr q : Nat) (n : Int) (w : World) (h0 : ¬ 0 < n) (hn : w.cell? ⟨pn, 0, none⟩ = some (.int .i64 n)) :
    Calls Try.prog 86 #[.pointer (some ⟨pn, 0, none⟩), .pointer (some ⟨pr, 0, none⟩), .pointer (some ⟨q, 0, none⟩)] w fun e w' => e = .returned (.int .i64 0) ∧ w = w' := by
  go_enter Try.func86, Try.ntmps86
  go_wp2
  go_returns
  exact ⟨rfl, rfl⟩

set_option maxRecDepth 100000 in
set_option maxHeartbeats 400000 in
theorem ahead_ok (b pn pr q : Nat) (t : ByteArray) (p m : Nat) (f n : Int) (w : World) (ht : t.size ≤ 9223372036854775807) (hp : p ≤ t.size) (h0 : 0 < n) (hm : m = min n.toNat (t.size - p)) (hqb : q ≠ b)
    (hb : Blk w b (RS.cs ⟨t, p, f⟩) 139) (hq : Blk w q #[.string ⟨#[]⟩] 9)
    (hn : w.cell? ⟨pn, 0, none⟩ = some (.int .i64 n)) (hr : w.cell? ⟨pr, 0, none⟩ = some (.pointer (some ⟨b, 0, none⟩))) :
    Calls Try.prog 86 #[.pointer (some ⟨pn, 0, none⟩), .pointer (some ⟨pr, 0, none⟩), .pointer (some ⟨q, 0, none⟩)] w fun e w' => e = .returned (.int .i64 0) ∧ Upd2 b q w w' ∧
      Blk w' b (RS.cs ⟨t, p, f⟩) 139 ∧ Blk w' q #[.string (t.extract p (p + m))] 9 := by
  have c0 := hb.cell 0
  have c1 := hb.cell 1
  have qc := hq.cell 0
  have qf := hq.free 0
  simp [RS.cs] at c0 c1 qc
  have hmin : (if (t.size : Int) - p < n then (t.size : Int) - p else n) = (m : Int) := by split <;> omega
  have hle : p + m ≤ t.size := by omega
  clear hm
  go_enter Try.func86, Try.ntmps86
  go_wp2
  refine wp_region_drew_tail 26 (by kernel_rfl) (by kernel_rfl) ?_
  simp only [List.take_succ_cons, List.take_zero, List.drop_succ_cons, List.drop_zero]
  repeat (go_big_quiet_step (fail))
  refine wpQuiet_nil ?_
  intro k
  go_wp2
  go_returns
  exact ⟨rfl, ((Upd2.refl b q w).drewN _).setR 0 _, (hb.drewN _).setOther (Ne.symm hqb) _, (hq.drewN _).set 0 _⟩

set_option maxRecDepth 100000 in
theorem fail_step (pe : Nat) (x : Int) (w : World) (hn : w.cell? ⟨pe, 0, none⟩ = some (.int .i64 x)) :
    Calls Try.prog 87 #[.pointer (some ⟨pe, 0, none⟩)] w fun e w' => e = .returned (.int .i64 x) ∧ w = w' := by
  go_enter Try.func87, Try.ntmps87
  go_wp2
  go_returns
  exact ⟨rfl, rfl⟩

set_option maxRecDepth 100000 in
theorem sound_nil (v : Value) (w : World) :
    Calls Try.prog 85 #[.pointer none, v] w fun e w' => e = .returned (.tuple #[]) ∧ w = w' := by
  go_enter Try.func85, Try.ntmps85
  go_wp2
  go_returns
  exact ⟨rfl, rfl⟩
set_option maxRecDepth 100000 in
theorem sound_no (b : Nat) (r : RS) (v : Value) (w : World) (hf : ((r.f : Int) == 0) = false) (hb : IsR w b r) :
    Calls Try.prog 85 #[.pointer (some ⟨b, 0, none⟩), v] w fun e w' => e = .returned (.tuple #[]) ∧ w = w' := by
  obtain ⟨t, p, f⟩ := r
  have c2 := Blk.cell hb 2
  simp [RS.cs] at c2
  simp only at hf
  go_enter Try.func85, Try.ntmps85
  go_wp2
  go_returns
  exact ⟨rfl, rfl⟩

set_option maxRecDepth 100000 in
set_option maxHeartbeats 400000 in
theorem sound_Take (b q : Nat) (t : ByteArray) (p p' : Nat) (x : Int) (cf : Array Value) (R : World → Prop) (w : World) (hb : IsR w b ⟨t, p, 0⟩) (hR : ∀ w i v, R w → R (w.setCell ⟨b, i, none⟩ v))
    (h1 : Calls Try.prog 88 cf w fun e w' => e = .returned (.int .i64 x) ∧ Upd2 b q w w' ∧ IsR w' b ⟨t, p', 0⟩ ∧ R w') :
    Calls Try.prog 85 #[.pointer (some ⟨b, 0, none⟩), .func (.func 88) #[] cf] w fun e w' => e = .returned (.tuple #[]) ∧ Upd2 b q w w' ∧ IsR w' b ⟨t, p', x⟩ ∧ R w' := by
  have c2 := Blk.cell hb 2
  simp [RS.cs] at c2
  have H1 := Lib.hid h1
  have HR := Lib.hid hR
  clear h1 hR
  go_enter Try.func85, Try.ntmps85
  go_wp2_with fail
  refine H1.out.mono ?_
  rintro e w1 ⟨rfl, hu, hb1, hr1⟩
  have d2 := Blk.cell hb1 2
  have f2 := Blk.free hb1 2
  simp [RS.cs] at d2
  go_wp2_with fail
  go_returns
  exact ⟨rfl, hu.setL 2 _, Blk.set hb1 2 _, HR.out _ _ _ hr1⟩

set_option maxRecDepth 100000 in
set_option maxHeartbeats 400000 in
theorem sound_Ahead (b q : Nat) (t : ByteArray) (p p' : Nat) (x : Int) (cf : Array Value) (R : World → Prop) (w : World) (hb : IsR w b ⟨t, p, 0⟩) (hR : ∀ w i v, R w → R (w.setCell ⟨b, i, none⟩ v))
    (h1 : Calls Try.prog 86 cf w fun e w' => e = .returned (.int .i64 x) ∧ Upd2 b q w w' ∧ IsR w' b ⟨t, p', 0⟩ ∧ R w') :
    Calls Try.prog 85 #[.pointer (some ⟨b, 0, none⟩), .func (.func 86) #[] cf] w fun e w' => e = .returned (.tuple #[]) ∧ Upd2 b q w w' ∧ IsR w' b ⟨t, p', x⟩ ∧ R w' := by
  have c2 := Blk.cell hb 2
  simp [RS.cs] at c2
  have H1 := Lib.hid h1
  have HR := Lib.hid hR
  clear h1 hR
  go_enter Try.func85, Try.ntmps85
  go_wp2_with fail
  refine H1.out.mono ?_
  rintro e w1 ⟨rfl, hu, hb1, hr1⟩
  have d2 := Blk.cell hb1 2
  have f2 := Blk.free hb1 2
  simp [RS.cs] at d2
  go_wp2_with fail
  go_returns
  exact ⟨rfl, hu.setL 2 _, Blk.set hb1 2 _, HR.out _ _ _ hr1⟩

set_option maxRecDepth 100000 in
set_option maxHeartbeats 400000 in
theorem sound_Fail (b q : Nat) (t : ByteArray) (p p' : Nat) (x : Int) (cf : Array Value) (R : World → Prop) (w : World) (hb : IsR w b ⟨t, p, 0⟩) (hR : ∀ w i v, R w → R (w.setCell ⟨b, i, none⟩ v))
    (h1 : Calls Try.prog 87 cf w fun e w' => e = .returned (.int .i64 x) ∧ Upd b w w' ∧ IsR w' b ⟨t, p', 0⟩ ∧ R w') :
    Calls Try.prog 85 #[.pointer (some ⟨b, 0, none⟩), .func (.func 87) #[] cf] w fun e w' => e = .returned (.tuple #[]) ∧ Upd b w w' ∧ IsR w' b ⟨t, p', x⟩ ∧ R w' := by
  have c2 := Blk.cell hb 2
  simp [RS.cs] at c2
  have H1 := Lib.hid h1
  have HR := Lib.hid hR
  clear h1 hR
  go_enter Try.func85, Try.ntmps85
  go_wp2_with fail
  refine H1.out.mono ?_
  rintro e w1 ⟨rfl, hu, hb1, hr1⟩
  have d2 := Blk.cell hb1 2
  have f2 := Blk.free hb1 2
  simp [RS.cs] at d2
  go_wp2_with fail
  go_returns
  exact ⟨rfl, hu.set 2 _, Blk.set hb1 2 _, HR.out _ _ _ hr1⟩
end Go.Proofs.Ytemfecdpjegocaa
