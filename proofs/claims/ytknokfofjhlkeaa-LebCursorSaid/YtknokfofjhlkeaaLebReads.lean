/- The walks of alive and of LebReads. -/
import Derived.Test.YtknokfofjhlkeaaLebNext
import Derived.Test.YtknokfofjhlkeaaLebRefNext
import Derived.Test.YtknokfofjhlkeaaLebPut
import Derived.Test.YtknokfofjhlkeaaLebLaws
import Derived.Deep.RegionWith
import Derived.Deep.QuietTactic
import Derived.BigQuiet
import Derived.Lib.Strings
namespace Go.Proofs.Ytknokfofjhlkeaa
open Go.RowKit
set_option linter.unusedVariables false

theorem leb_next_a (w : World) : Calls Try.prog 13 #[.string ⟨#[128, 0]⟩] w fun e w' => e = .returned (.tuple #[.int .u64 0, .int .i64 0, .int .i64 3]) ∧ w = w' :=
  leb_next ⟨#[128, 0]⟩ w (by decide)
theorem leb_next_b (w : World) : Calls Try.prog 13 #[.string ⟨#[128]⟩] w fun e w' => e = .returned (.tuple #[.int .u64 0, .int .i64 0, .int .i64 2]) ∧ w = w' :=
  leb_next ⟨#[128]⟩ w (by decide)
theorem leb_put_a (w : World) : Calls Try.prog 15 #[.int .u64 300] w fun e w' => e = .returned (.string ⟨#[172, 2]⟩) ∧ Below w.heap.size w w' := by
  have := leb_put 300 w (by decide)
  have e : lebPut 300 = [172, 2] := by rw [lebPut_hi 300 (by omega), lebPut_lo _ (by omega)]; rfl
  rw [e] at this
  exact this

set_option maxRecDepth 100000 in
set_option maxHeartbeats 400000 in
theorem leb_alive (w : World) : Calls Try.prog 12 #[] w fun e w' => e = .returned (.bool true) ∧ Below w.heap.size w w' := by
  go_enter Try.func12, Try.ntmps12
  go_wp2_with fail
  refine (leb_next_a _).mono ?_
  rintro e w' ⟨rfl, rfl⟩
  go_wp2_with fail
  refine (leb_next_b _).mono ?_
  rintro e w' ⟨rfl, rfl⟩
  go_wp2_with fail
  refine (leb_put_a _).mono ?_
  rintro e w1 ⟨rfl, hb⟩
  go_wp2_with fail
  go_returns
  exact ⟨rfl, hb⟩

set_option maxRecDepth 100000 in
set_option maxHeartbeats 400000 in
theorem leb_reads (s : ByteArray) (w : World) (hs : s.size ≤ maxLen) :
    Calls Try.prog 3 #[.string s] w fun e w' => e = .returned (.bool true) ∧ Below w.heap.size w w' := by
  by_cases hlen : 200 < s.size
  · unfold maxLen at hs
    go_enter Try.func3, Try.ntmps3
    go_wp2_with fail
    refine (leb_alive _).mono ?_
    rintro e w1 ⟨rfl, hb⟩
    go_wp2_with fail
    go_returns
    exact ⟨rfl, hb⟩
  · have h1 := fun w => leb_next s w hs
    have h2 := fun w => leb_ref_next s w hs
    have hbad := lebNext_bad s.data.toList 0 0
    have hok := fun N K => lebNext_ok (l := s.data.toList) (N := N) (K := K)
    generalize lebNext s.data.toList 0 0 = t at h1 h2 hbad hok
    obtain ⟨n, k, er⟩ := t
    have H1 := Lib.hid h1
    have H2 := Lib.hid h2
    clear h1 h2
    unfold maxLen at hs
    by_cases her : er = 0
    · subst her
      obtain ⟨hk, hn, hput, hk10⟩ := hok n k rfl
      clear hok hbad
      have hk' : k ≤ s.size := by simpa using hk
      have HE : Hid ((lebPut n == (s.extract 0 k).toList) = true) := by
        unfold Hid
        rw [hput, Lib.extract_toList]; simp
      clear hput hk
      go_enter Try.func3, Try.ntmps3
      go_wp2_with fail
      refine (leb_alive _).mono ?_
      rintro e w1 ⟨rfl, hb⟩
      go_wp2_with fail
      refine (H1.out _).mono ?_
      rintro e w' ⟨rfl, rfl⟩
      unfold lebVal
      go_wp2_with fail
      refine (H2.out _).mono ?_
      rintro e w' ⟨rfl, rfl⟩
      unfold lebVal
      go_wp2_with fail
      refine wp_region_after (by kernel_rfl) (by kernel_rfl) ?_
      repeat (go_big_quiet_step ((go_at_call 15; exact Calls.after (leb_put n _ hn))))
      refine wpQuiet_nil ?_
      intro x
      go_wp2_with fail
      go_returns
      exact ⟨by rw [HE.out]; rfl, hb.trans (x.is.mono hb.size)⟩
    · have hne : ((er : Int) != 0) = true := by rw [bne_iff_ne]; omega
      clear hok hbad
      go_enter Try.func3, Try.ntmps3
      go_wp2_with fail
      refine (leb_alive _).mono ?_
      rintro e w1 ⟨rfl, hb⟩
      go_wp2_with fail
      refine (H1.out _).mono ?_
      rintro e w' ⟨rfl, rfl⟩
      unfold lebVal
      go_wp2_with fail
      refine (H2.out _).mono ?_
      rintro e w' ⟨rfl, rfl⟩
      unfold lebVal
      go_wp2_with fail
      refine wp_region_after (by kernel_rfl) (by kernel_rfl) ?_
      repeat (go_big_quiet_step (fail))
      refine wpQuiet_nil ?_
      intro x
      go_wp2_with fail
      go_returns
      exact ⟨rfl, hb.trans (x.is.mono hb.size)⟩
end Go.Proofs.Ytknokfofjhlkeaa
