/- The steps of Ahead and Fail; how a step is taken. -/
import Derived.Test.YtekcehicjggmiaaCursor
import Derived.Test.YtekcehicjggmiaaTail
namespace Go.Proofs.Ytekcehicjggmiaa
open Go.RowKit
set_option linter.unusedVariables false

set_option maxRecDepth 100000 in
theorem sound_nil (v : Value) (w : World) :
    Calls Try.prog 71 #[.pointer none, v] w fun e w' => e = .returned (.tuple #[]) ∧ w = w' := by
  go_enter Try.func71, Try.ntmps71
  go_wp2
  go_returns
  exact ⟨rfl, rfl⟩
set_option maxRecDepth 100000 in
theorem sound_no (b : Nat) (r : RS) (v : Value) (w : World) (hf : ((r.f : Int) == 0) = false) (hb : IsR w b r) :
    Calls Try.prog 71 #[.pointer (some ⟨b, 0, none⟩), v] w fun e w' => e = .returned (.tuple #[]) ∧ w = w' := by
  obtain ⟨t, p, f⟩ := r
  have c2 := Blk.cell hb 2
  simp [RS.cs] at c2
  simp only at hf
  go_enter Try.func71, Try.ntmps71
  go_wp2
  go_returns
  exact ⟨rfl, rfl⟩

set_option maxRecDepth 100000 in
set_option maxHeartbeats 400000 in
theorem sound_Take (b q : Nat) (t : ByteArray) (p p' : Nat) (x : Int) (cf : Array Value) (R : World → Prop) (w : World) (hb : IsR w b ⟨t, p, 0⟩) (hR : ∀ w i v, R w → R (w.setCell ⟨b, i, none⟩ v))
    (h1 : Calls Try.prog 72 cf w fun e w' => e = .returned (.int .i64 x) ∧ Upd2 b q w w' ∧ IsR w' b ⟨t, p', 0⟩ ∧ R w') :
    Calls Try.prog 71 #[.pointer (some ⟨b, 0, none⟩), .func (.func 72) #[] cf] w fun e w' => e = .returned (.tuple #[]) ∧ Upd2 b q w w' ∧ IsR w' b ⟨t, p', x⟩ ∧ R w' := by
  have c2 := Blk.cell hb 2
  simp [RS.cs] at c2
  have H1 := Lib.hid h1
  have HR := Lib.hid hR
  clear h1 hR
  go_enter Try.func71, Try.ntmps71
  go_wp2_with fail
  refine H1.out.mono ?_
  rintro e w1 ⟨rfl, hu, hb1, hr1⟩
  have d2 := Blk.cell hb1 2
  have f2 := Blk.free hb1 2
  simp [RS.cs] at d2
  go_wp2_with fail
  go_returns
  exact ⟨rfl, hu.setL 2 _, Blk.set hb1 2 _, HR.out _ _ _ hr1⟩

end Go.Proofs.Ytekcehicjggmiaa
