/- The steps of package cursor. -/
import Derived.Test.YtemfecdpjegocaaRows
import Derived.Test.YtemfecdpjegocaaObj2
import Derived.Test.YtemfecdpjegocaaTail
import Derived.WalkSpells
import Derived.RegionTactic
import Derived.BigRegion
import Derived.ChangeAlike
import Derived.Deep.QuietTactic
import Derived.BigQuiet
namespace Go.Proofs.Ytemfecdpjegocaa
open Go.RowKit
set_option linter.unusedVariables false

/-- A reader: its text, the place, the fault. -/
structure RS where
  t : ByteArray
  p : Nat
  f : Int
def RS.cs (r : RS) : Array Value := #[.string r.t, .int .i64 r.p, .int .i64 r.f]
def RS.Ok (r : RS) : Prop := r.p ≤ r.t.size ∧ r.t.size ≤ 9223372036854775807
/-- The reader in block b is r. -/
def IsR (w : World) (b : Nat) (r : RS) : Prop := Blk w b r.cs 139

set_option maxRecDepth 100000 in
set_option maxHeartbeats 400000 in
theorem take_neg (b pn pr q : Nat) (n : Int) (w : World) (h0 : n < 0) (hn : w.cell? ⟨pn, 0, none⟩ = some (.int .i64 n)) :
    Calls Try.prog 88 #[.pointer (some ⟨pn, 0, none⟩), .pointer (some ⟨pr, 0, none⟩), .pointer (some ⟨q, 0, none⟩)] w fun e w' => e = .returned (.int .i64 1) ∧ w = w' := by
  go_enter Try.func88, Try.ntmps88
  go_wp2
  go_returns
  exact ⟨rfl, rfl⟩

set_option maxRecDepth 100000 in
set_option maxHeartbeats 400000 in
theorem take_over (b pn pr q : Nat) (t : ByteArray) (p : Nat) (f n : Int) (w : World) (hp : p ≤ t.size) (ht : t.size ≤ 9223372036854775807) (h0 : 0 ≤ n) (h1 : (t.size : Int) - p < n)
    (hb : Blk w b (RS.cs ⟨t, p, f⟩) 139) (hn : w.cell? ⟨pn, 0, none⟩ = some (.int .i64 n)) (hr : w.cell? ⟨pr, 0, none⟩ = some (.pointer (some ⟨b, 0, none⟩))) :
    Calls Try.prog 88 #[.pointer (some ⟨pn, 0, none⟩), .pointer (some ⟨pr, 0, none⟩), .pointer (some ⟨q, 0, none⟩)] w fun e w' => e = .returned (.int .i64 2) ∧ ∃ k, w' = w.drewN k := by
  have c0 := hb.cell 0
  have c1 := hb.cell 1
  simp [RS.cs] at c0 c1
  have d0 : decide (n < 0) = false := by simpa using h0
  go_enter Try.func88, Try.ntmps88
  go_wp2
  go_quiet (fail)
  go_wp2
  go_returns
  exact ⟨rfl, _, rfl⟩

set_option maxRecDepth 100000 in
set_option maxHeartbeats 400000 in
theorem take_ok (b pn pr q : Nat) (t : ByteArray) (p m : Nat) (f : Int) (w : World) (ht : t.size ≤ 9223372036854775807) (h1 : p + m ≤ t.size) (hqb : q ≠ b)
    (hprq : pr ≠ q) (hpnq : pn ≠ q) (hb : Blk w b (RS.cs ⟨t, p, f⟩) 139) (hq : Blk w q #[.string ⟨#[]⟩] 9)
    (hn : w.cell? ⟨pn, 0, none⟩ = some (.int .i64 m)) (hr : w.cell? ⟨pr, 0, none⟩ = some (.pointer (some ⟨b, 0, none⟩))) :
    Calls Try.prog 88 #[.pointer (some ⟨pn, 0, none⟩), .pointer (some ⟨pr, 0, none⟩), .pointer (some ⟨q, 0, none⟩)] w fun e w' => e = .returned (.int .i64 0) ∧ Upd2 b q w w' ∧
      Blk w' b (RS.cs ⟨t, p + m, f⟩) 139 ∧ Blk w' q #[.string (t.extract p (p + m))] 9 := by
  have c0 := hb.cell 0
  have c1 := hb.cell 1
  have f1 := hb.free 1
  have qc := hq.cell 0
  have qf := hq.free 0
  simp [RS.cs] at c0 c1 qc
  have d0 : decide ((m : Int) < 0) = false := by simp
  have d1 : decide ((t.size : Int) - p < m) = false := by simp; omega
  go_enter Try.func88, Try.ntmps88
  go_wp2
  go_quiet (fail)
  go_wp2
  refine wp_region_drew_tail 15 (by kernel_rfl) (by kernel_rfl) ?_
  simp only [List.take_succ_cons, List.take_zero, List.drop_succ_cons, List.drop_zero]
  repeat (go_big_quiet_step (fail))
  refine wpQuiet_nil ?_
  intro k15
  go_wp2
  refine wp_region_drew_tail 8 (by kernel_rfl) (by kernel_rfl) ?_
  simp only [List.take_succ_cons, List.take_zero, List.drop_succ_cons, List.drop_zero]
  repeat (go_big_quiet_step (fail))
  refine wpQuiet_nil ?_
  intro k8
  go_wp2
  go_returns
  exact ⟨rfl, ((((Upd2.refl b q w).drewN _).setR 0 _).setL 1 _).drewN _, ((hb.drewN _).setOther (Ne.symm hqb) _).set 1 _, ((hq.drewN _).set 0 _).setOther hqb _⟩

end Go.Proofs.Ytemfecdpjegocaa
