/- The walks of package meter. -/
import Derived.Test.YtknokfofjhlkeaaRows
import Derived.Test.YtknokfofjhlkeaaObj
import Derived.WalkSpells
import Derived.RegionTactic
import Derived.BigRegion
import Derived.ChangeAlike
import Derived.Deep.QuietTactic
import Derived.BigQuiet
import Derived.StillTailTactics
namespace Go.Proofs.Ytknokfofjhlkeaa
open Go.RowKit
set_option linter.unusedVariables false

/-- A meter's cells. -/
def mcs (mo us ta to : Int) : Array Value := #[.int .i64 mo, .int .i64 us, .int .i64 ta, .int .i64 to]

set_option maxRecDepth 100000 in
theorem meter_new (n : Int) (w : World) :
    Calls Try.prog 19 #[.int .i64 n] w fun e w' => e = .returned (.pointer (some ⟨w.heap.size, 0, none⟩)) ∧ w' = w.alloc (.cells (mcs (if n < 0 then 0 else n) 0 0 0) 72) := by
  by_cases h : n < 0
  all_goals
    go_enter Try.func19, Try.ntmps19
    go_wp2
    go_returns
    exact ⟨rfl, rfl⟩

/-- Why a taking is refused. -/
def takeErr (mo us ta n : Int) : Int := if mo - us < n ∨ 9223372036854775807 - ta < n then 5 else 0

def giveErr (us n : Int) : Int := if us < n then 1 else 0

set_option maxRecDepth 100000 in
theorem take1 (b p q : Nat) (mo us ta to n : Int) (w : World) (h0 : 0 ≤ us) (h1 : us ≤ mo) (h2 : mo ≤ 9223372036854775807) (h3 : 0 ≤ ta) (h4 : ta ≤ 9223372036854775807)
    (hb : Blk w b (mcs mo us ta to) 72) (hp : w.cell? ⟨p, 0, none⟩ = some (.int .i64 n)) (hq : w.cell? ⟨q, 0, none⟩ = some (.pointer (some ⟨b, 0, none⟩))) :
    Calls Try.prog 50 #[.pointer (some ⟨p, 0, none⟩), .pointer (some ⟨q, 0, none⟩)] w fun e w' => e = .returned (.int .i64 (takeErr mo us ta n)) ∧ ∃ k, w' = w.drewN k := by
  have c0 := hb.cell 0
  have c1 := hb.cell 1
  have c2 := hb.cell 2
  simp [mcs] at c0 c1 c2
  by_cases d1 : mo - us < n
  · have e : takeErr mo us ta n = 5 := if_pos (.inl d1)
    rw [e]
    clear e
    go_enter Try.func50, Try.ntmps50
    go_wp2
    go_quiet (fail)
    go_wp2
    go_returns
    exact ⟨rfl, _, rfl⟩
  · have d1' : decide (mo - us < n) = false := by simpa using d1
    by_cases d2 : 9223372036854775807 - ta < n
    · have e : takeErr mo us ta n = 5 := if_pos (.inr d2)
      rw [e]
      clear e d1
      go_enter Try.func50, Try.ntmps50
      go_wp2
      go_quiet (fail)
      go_wp2
      go_returns
      exact ⟨rfl, _, rfl⟩
    · have e : takeErr mo us ta n = 0 := if_neg (by omega)
      rw [e]
      have d2' : decide (9223372036854775807 - ta < n) = false := by simpa using d2
      clear e d1 d2
      go_enter Try.func50, Try.ntmps50
      go_wp2
      go_quiet (fail)
      go_wp2
      go_returns
      exact ⟨rfl, _, rfl⟩

set_option maxRecDepth 100000 in
theorem take2 (b p q : Nat) (mo us ta to n : Int) (w : World) (h0 : 0 ≤ us + n) (h1 : us + n ≤ 9223372036854775807) (h3 : 0 ≤ ta + n) (h4 : ta + n ≤ 9223372036854775807) (hqb : q ≠ b) (hpb : p ≠ b)
    (hb : Blk w b (mcs mo us ta to) 72) (hp : w.cell? ⟨p, 0, none⟩ = some (.int .i64 n)) (hq : w.cell? ⟨q, 0, none⟩ = some (.pointer (some ⟨b, 0, none⟩))) :
    Calls Try.prog 51 #[.pointer (some ⟨q, 0, none⟩), .pointer (some ⟨p, 0, none⟩)] w fun e w' => e = .returned (.tuple #[]) ∧ Upd b w w' ∧ Blk w' b (mcs mo (us + n) (ta + n) to) 72 := by
  have c1 := hb.cell 1
  have c2 := hb.cell 2
  have f1 := hb.free 1
  have f2 := hb.free 2
  simp [mcs] at c1 c2
  go_enter Try.func51, Try.ntmps51
  go_wp2
  go_region
  go_wp2
  go_region
  go_wp2
  go_returns
  exact ⟨rfl, (((Upd.refl b w).set 1 _).set 2 _).drew.drew, (hb.set 1 _).set 2 _⟩

set_option maxRecDepth 100000 in
theorem give1 (b p q : Nat) (mo us ta to n : Int) (w : World)
    (hb : Blk w b (mcs mo us ta to) 72) (hp : w.cell? ⟨p, 0, none⟩ = some (.int .i64 n)) (hq : w.cell? ⟨q, 0, none⟩ = some (.pointer (some ⟨b, 0, none⟩))) :
    Calls Try.prog 52 #[.pointer (some ⟨p, 0, none⟩), .pointer (some ⟨q, 0, none⟩)] w fun e w' => e = .returned (.int .i64 (giveErr us n)) ∧ ∃ k, w' = w.drewN k := by
  have c1 := hb.cell 1
  simp [mcs] at c1
  by_cases d1 : us < n
  · have e : giveErr us n = 1 := if_pos d1
    rw [e]
    clear e
    go_enter Try.func52, Try.ntmps52
    go_wp2
    go_quiet (fail)
    go_wp2
    go_returns
    exact ⟨rfl, _, rfl⟩
  · have e : giveErr us n = 0 := if_neg d1
    rw [e]
    have d1' : decide (us < n) = false := by simpa using d1
    clear e d1
    go_enter Try.func52, Try.ntmps52
    go_wp2
    go_quiet (fail)
    go_wp2
    go_returns
    exact ⟨rfl, _, rfl⟩

set_option maxRecDepth 100000 in
theorem give2 (b p q : Nat) (mo us ta to n : Int) (w : World) (h0 : 0 ≤ us - n) (h1 : us - n ≤ 9223372036854775807) (hqb : q ≠ b) (hpb : p ≠ b)
    (hb : Blk w b (mcs mo us ta to) 72) (hp : w.cell? ⟨p, 0, none⟩ = some (.int .i64 n)) (hq : w.cell? ⟨q, 0, none⟩ = some (.pointer (some ⟨b, 0, none⟩))) :
    Calls Try.prog 53 #[.pointer (some ⟨q, 0, none⟩), .pointer (some ⟨p, 0, none⟩)] w fun e w' => e = .returned (.tuple #[]) ∧ Upd b w w' ∧ Blk w' b (mcs mo (us - n) ta to) 72 := by
  have c1 := hb.cell 1
  have f1 := hb.free 1
  simp [mcs] at c1
  go_enter Try.func53, Try.ntmps53
  go_wp2
  go_region
  go_wp2
  go_returns
  exact ⟨rfl, ((Upd.refl b w).set 1 _).drew, hb.set 1 _⟩

/-- The step that all moves end with. -/
def MStep (b : Nat) (w : World) (r mo us ta to : Int) : Ending → World → Prop := fun e w' =>
  e = .returned (.int .i64 r) ∧ Upd b w w' ∧ Blk w' b (mcs mo us ta to) 72

/-- The greater of two. -/
def maxI (a b : Int) : Int := if a < b then b else a

set_option maxRecDepth 100000 in
set_option maxHeartbeats 400000 in
theorem move_no_Take (b : Nat) (mo us ta to n r : Int) (cf cg : Array Value) (w : World) (hn : 0 ≤ n) (hr : ((r : Int) != 0) = true)
    (hb : Blk w b (mcs mo us ta to) 72) (h1 : Calls Try.prog 50 cf w fun e w' => e = .returned (.int .i64 r) ∧ ∃ k, w' = w.drewN k) :
    Calls Try.prog 49 #[.pointer (some ⟨b, 0, none⟩), .int .i64 n, .func (.func 50) #[] cf, .func (.func 51) #[] cg] w (MStep b w r mo us ta to) := by
  have H1 := Lib.hid h1
  clear h1
  have hn' : decide (n < 0) = false := by simpa using hn
  go_enter Try.func49, Try.ntmps49
  go_wp2_with fail
  refine H1.out.mono ?_
  rintro e w1 ⟨rfl, k, rfl⟩
  go_wp2_with fail
  go_returns
  exact ⟨rfl, ⟨rfl, rfl, rfl, Nat.le_refl _, fun _ _ _ => rfl⟩, hb⟩

set_option maxRecDepth 100000 in
set_option maxHeartbeats 400000 in
theorem move_ok_Take (b : Nat) (mo us ta to us' ta' n : Int) (cf cg : Array Value) (w : World) (hn : 0 ≤ n)
    (hb : Blk w b (mcs mo us ta to) 72) (h1 : Calls Try.prog 50 cf w fun e w' => e = .returned (.int .i64 0) ∧ ∃ k, w' = w.drewN k)
    (h2 : ∀ k, Calls Try.prog 51 cg (w.drewN k) fun e w' => e = .returned (.tuple #[]) ∧ Upd b (w.drewN k) w' ∧ Blk w' b (mcs mo us' ta' to) 72) :
    Calls Try.prog 49 #[.pointer (some ⟨b, 0, none⟩), .int .i64 n, .func (.func 50) #[] cf, .func (.func 51) #[] cg] w (MStep b w 0 mo us' ta' (maxI to us')) := by
  have H1 := Lib.hid h1
  have H2 := Lib.hid h2
  clear h1 h2
  have hn' : decide (n < 0) = false := by simpa using hn
  have hmx : (if to < us' then us' else to) = maxI to us' := rfl
  generalize maxI to us' = m at *
  go_enter Try.func49, Try.ntmps49
  go_wp2_with fail
  refine H1.out.mono ?_
  rintro e w1 ⟨rfl, k, rfl⟩
  go_wp2_with fail
  refine (H2.out k).mono ?_
  rintro e w2 ⟨rfl, hu, hb2⟩
  have c1 := hb2.cell 1
  have c3 := hb2.cell 3
  have f3 := hb2.free 3
  simp [mcs] at c1 c3
  go_wp2_with fail
  go_region
  go_wp2
  go_returns
  refine ⟨rfl, ?_, ?_⟩
  · refine Upd.trans (v := w.drewN k) ⟨rfl, rfl, rfl, Nat.le_refl _, fun _ _ _ => rfl⟩ ?_
    exact (hu.set 3 _).drew
  · exact hb2.set 3 _

set_option maxRecDepth 100000 in
set_option maxHeartbeats 400000 in
theorem move_no_Give (b : Nat) (mo us ta to n r : Int) (cf cg : Array Value) (w : World) (hn : 0 ≤ n) (hr : ((r : Int) != 0) = true)
    (hb : Blk w b (mcs mo us ta to) 72) (h1 : Calls Try.prog 52 cf w fun e w' => e = .returned (.int .i64 r) ∧ ∃ k, w' = w.drewN k) :
    Calls Try.prog 49 #[.pointer (some ⟨b, 0, none⟩), .int .i64 n, .func (.func 52) #[] cf, .func (.func 53) #[] cg] w (MStep b w r mo us ta to) := by
  have H1 := Lib.hid h1
  clear h1
  have hn' : decide (n < 0) = false := by simpa using hn
  go_enter Try.func49, Try.ntmps49
  go_wp2_with fail
  refine H1.out.mono ?_
  rintro e w1 ⟨rfl, k, rfl⟩
  go_wp2_with fail
  go_returns
  exact ⟨rfl, ⟨rfl, rfl, rfl, Nat.le_refl _, fun _ _ _ => rfl⟩, hb⟩

set_option maxRecDepth 100000 in
set_option maxHeartbeats 400000 in
theorem move_ok_Give (b : Nat) (mo us ta to us' ta' n : Int) (cf cg : Array Value) (w : World) (hn : 0 ≤ n)
    (hb : Blk w b (mcs mo us ta to) 72) (h1 : Calls Try.prog 52 cf w fun e w' => e = .returned (.int .i64 0) ∧ ∃ k, w' = w.drewN k)
    (h2 : ∀ k, Calls Try.prog 53 cg (w.drewN k) fun e w' => e = .returned (.tuple #[]) ∧ Upd b (w.drewN k) w' ∧ Blk w' b (mcs mo us' ta' to) 72) :
    Calls Try.prog 49 #[.pointer (some ⟨b, 0, none⟩), .int .i64 n, .func (.func 52) #[] cf, .func (.func 53) #[] cg] w (MStep b w 0 mo us' ta' (maxI to us')) := by
  have H1 := Lib.hid h1
  have H2 := Lib.hid h2
  clear h1 h2
  have hn' : decide (n < 0) = false := by simpa using hn
  have hmx : (if to < us' then us' else to) = maxI to us' := rfl
  generalize maxI to us' = m at *
  go_enter Try.func49, Try.ntmps49
  go_wp2_with fail
  refine H1.out.mono ?_
  rintro e w1 ⟨rfl, k, rfl⟩
  go_wp2_with fail
  refine (H2.out k).mono ?_
  rintro e w2 ⟨rfl, hu, hb2⟩
  have c1 := hb2.cell 1
  have c3 := hb2.cell 3
  have f3 := hb2.free 3
  simp [mcs] at c1 c3
  go_wp2_with fail
  go_region
  go_wp2
  go_returns
  refine ⟨rfl, ?_, ?_⟩
  · refine Upd.trans (v := w.drewN k) ⟨rfl, rfl, rfl, Nat.le_refl _, fun _ _ _ => rfl⟩ ?_
    exact (hu.set 3 _).drew
  · exact hb2.set 3 _
end Go.Proofs.Ytknokfofjhlkeaa
