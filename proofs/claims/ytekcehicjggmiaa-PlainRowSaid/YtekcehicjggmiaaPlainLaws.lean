/- The walks of alive, PlainPuts, PlainReads. -/
import Derived.Test.YtekcehicjggmiaaPlainRef
import Derived.Deep.RegionWith
namespace Go.Proofs.Ytekcehicjggmiaa
open Go.RowKit
set_option linter.unusedVariables false

theorem lebPut_5 : lebPut 5 = [5] := lebPut_lo 5 (by omega)
theorem lebPut_3 : lebPut 3 = [3] := lebPut_lo 3 (by omega)
theorem pa1 (w : World) : Calls Try.prog 41 #[.int .u64 5, .string ⟨#[97, 98]⟩] w fun e w' => e = .returned (.tuple #[.string ⟨#[3, 5, 97, 98]⟩, .int .i64 0]) ∧ Below w.heap.size w w' := by
  have h := plain_put 5 ⟨#[97, 98]⟩ w (by decide) (by rw [lebPut_5]; decide)
  have e : pPut 5 ⟨#[97, 98]⟩ = ⟨#[3, 5, 97, 98]⟩ := by
    unfold pPut
    rw [lebPut_5, show ([5] : List UInt8).length + (⟨#[97, 98]⟩ : ByteArray).size = 3 from rfl, lebPut_3]; exact pbext (by simp)
  rw [e] at h
  exact h
theorem pa2 (w : World) : Calls Try.prog 43 #[.int .i64 9, .string ⟨#[0]⟩] w fun e w' => e = .returned (.tuple #[.agg #[.int .u64 0, .string ⟨#[]⟩, .string ⟨#[]⟩], .int .i64 0, .int .i64 3]) ∧ Below w.heap.size w w' := by
  have h := plain_next 9 ⟨#[0]⟩ w (by decide) (by decide)
  have e : pNext 9 ⟨#[0]⟩ = .bad 3 := pNext_form (n := 0) (k := 1) (by decide) (by decide) (by decide)
  rw [e] at h
  exact h

set_option maxRecDepth 100000 in
set_option maxHeartbeats 400000 in
theorem plain_alive (w : World) : Calls Try.prog 40 #[] w fun e w' => e = .returned (.bool true) ∧ Below w.heap.size w w' := by
  go_enter Try.func40, Try.ntmps40
  go_wp2_with fail
  refine (pa1 _).mono ?_
  rintro e w1 ⟨rfl, hb1⟩
  go_wp2_with fail
  refine (pa2 _).mono ?_
  rintro e w2 ⟨rfl, hb2⟩
  go_wp2_with fail
  go_returns
  refine ⟨rfl, ?_⟩
  have b2 := hb1.trans (hb2.mono hb1.size)
  exact b2.alloc b2.size _

theorem pu64 {x : Int} (h : (Lit.int .u64 x).wf = true) : ∃ n : Nat, x = n ∧ n < 18446744073709551616 := by
  have : 0 ≤ x ∧ x ≤ 18446744073709551615 := by simpa [Lit.wf, IntKind.min, IntKind.max, IntKind.signed, IntKind.bits] using h
  exact ⟨x.toNat, by omega, by omega⟩
theorem pi64 {x : Int} (h : (Lit.int .i64 x).wf = true) : -9223372036854775808 ≤ x ∧ x ≤ 9223372036854775807 := by
  simpa [Lit.wf, IntKind.min, IntKind.max, IntKind.signed, IntKind.bits] using h
theorem pu16 {x : Int} (h : (Lit.int .u16 x).wf = true) : 0 ≤ x ∧ x ≤ 65535 := by
  simpa [Lit.wf, IntKind.min, IntKind.max, IntKind.signed, IntKind.bits] using h

set_option maxRecDepth 100000 in
set_option maxHeartbeats 400000 in
theorem plain_puts (x : Int) (body more : ByteArray) (w : World) (hx : (Lit.int .u64 x).wf = true) (hs : body.size ≤ maxLen) (hs2 : more.size ≤ maxLen) :
    Calls Try.prog 12 #[.int .u64 x, .string body, .string more] w fun e w' => e = .returned (.bool true) ∧ Below w.heap.size w w' := by
  obtain ⟨id, rfl, hid⟩ := pu64 hx
  clear hx
  have hsm := hs
  unfold maxLen at hs hs2
  by_cases g : decide ((500 : Int) < body.size) = true ∧ decide ((body.size : Int) < 65500) = true
  · obtain ⟨g1, g2⟩ := g
    clear hsm
    go_enter Try.func12, Try.ntmps12
    go_wp2_with fail
    refine (plain_alive _).mono ?_
    rintro e w1 ⟨rfl, hb1⟩
    go_wp2_with fail
    go_returns
    exact ⟨rfl, hb1⟩
  · by_cases g3 : decide ((70000 : Int) < body.size) = true
    · have g1 : decide ((500 : Int) < body.size) = true := by simp at g3 ⊢; omega
      have g2 : decide ((body.size : Int) < 65500) = false := by simp at g3 ⊢; omega
      clear g hsm
      go_enter Try.func12, Try.ntmps12
      go_wp2_with fail
      refine (plain_alive _).mono ?_
      rintro e w1 ⟨rfl, hb1⟩
      go_wp2_with fail
      go_returns
      exact ⟨rfl, hb1⟩
    · have g3' : decide ((70000 : Int) < body.size) = false := by simpa using g3
      have hb70 : body.size ≤ 70000 := by simp at g3'; omega
      clear g3
      by_cases g4 : 100 < more.size
      · have g4' : decide ((100 : Int) < more.size) = true := by simp; omega
        by_cases g5 : 500 < body.size
        · have g1 : decide ((500 : Int) < body.size) = true := by simp; omega
          have g2 : decide ((body.size : Int) < 65500) = false := by
            cases h : decide ((body.size : Int) < 65500) with
            | true => exact absurd ⟨g1, h⟩ g
            | false => rfl
          clear g hsm hb70 g5 g4 hs hs2
          go_enter Try.func12, Try.ntmps12
          go_wp2_with fail
          refine (plain_alive _).mono ?_
          rintro e w1 ⟨rfl, hb1⟩
          go_wp2_with fail
          go_returns
          exact ⟨rfl, hb1⟩
        · have g1 : decide ((500 : Int) < body.size) = false := by simp; omega
          clear g hsm hb70 g5 g4 hs hs2
          go_enter Try.func12, Try.ntmps12
          go_wp2_with fail
          refine (plain_alive _).mono ?_
          rintro e w1 ⟨rfl, hb1⟩
          go_wp2_with fail
          go_returns
          exact ⟨rfl, hb1⟩
      · have g4' : decide ((100 : Int) < more.size) = false := by simp; omega
        have hm100 : more.size ≤ 100 := by omega
        have guard : Hid ((decide ((500 : Int) < body.size) = true ∧ decide ((body.size : Int) < 65500) = false) ∨ decide ((500 : Int) < body.size) = false) := by
          unfold Hid
          cases h1 : decide ((500 : Int) < body.size) with
          | false => exact .inr rfl
          | true =>
            cases h2 : decide ((body.size : Int) < 65500) with
            | true => exact absurd ⟨h1, h2⟩ g
            | false => exact .inl ⟨rfl, rfl⟩
        clear g g4
        by_cases hov : 65536 < (lebPut id).length + body.size
        · have c1 := Lib.hid (fun w => plain_put_over id body w hid hov (by omega))
          have c2 := Lib.hid (fun w => ref15_put id body false w hid (by omega) (by simp; omega))
          generalize pPut id body = P at *
          clear hov hsm hb70
          rcases guard.out with ⟨g1, g2⟩ | g1
          all_goals
            go_enter Try.func12, Try.ntmps12
            go_wp2_with fail
            refine (plain_alive _).mono ?_
            rintro e w1 ⟨rfl, hb1⟩
            go_wp2_with fail
            refine (c1.out _).mono ?_
            rintro e w' ⟨rfl, rfl⟩
            go_wp2_with fail
            refine (c2.out _).mono ?_
            rintro e w2 ⟨rfl, hb2⟩
            go_wp2_with fail
            go_returns
            exact ⟨rfl, hb1.trans (hb2.mono hb1.size)⟩
        · have hfit : (lebPut id).length + body.size ≤ 65536 := by omega
          have c1 := Lib.hid (fun w => plain_put id body w hid hfit)
          have c2 := Lib.hid (fun w => ref15_put id body true w hid (by omega) (by simp; omega))
          have hPs : (pPut id body).size ≤ 65546 := by
            rw [pPut_size]; have := lebPut_le 10 ((lebPut id).length + body.size) (Nat.lt_of_le_of_lt hfit (by decide)); omega
          have c3 : Hid (∀ w, Calls Try.prog 43 #[.int .i64 65536, .string (pPut id body ++ more)] w fun e w' => e = .returned (.tuple #[.agg #[.int .u64 id, .string ⟨#[]⟩, .string body], .int .i64 (pPut id body).size, .int .i64 0]) ∧ Below w.heap.size w w') := by
            intro w
            have h := plain_next 65536 (pPut id body ++ more) w (by decide) (by unfold maxLen; rw [ByteArray.size_append]; omega)
            rw [pNext_put 65536 id body more hid (by omega) (by omega)] at h
            exact h
          generalize pPut id body = P at *
          clear hov hsm hb70 hfit
          rcases guard.out with ⟨g1, g2⟩ | g1
          all_goals
            go_enter Try.func12, Try.ntmps12
            go_wp2_with fail
            refine (plain_alive _).mono ?_
            rintro e w1 ⟨rfl, hb1⟩
            go_wp2_with fail
            refine (c1.out _).mono ?_
            rintro e w2 ⟨rfl, hb2⟩
            go_wp2_with fail
            refine (c2.out _).mono ?_
            rintro e w3 ⟨rfl, hb3⟩
            go_wp2_with fail
            refine (c3.out _).mono ?_
            rintro e w4 ⟨rfl, hb4⟩
            go_wp2_with fail
            go_returns
            have b2 := hb1.trans (hb2.mono hb1.size)
            have b3 := b2.trans (hb3.mono b2.size)
            have b4 := b3.trans (hb4.mono b3.size)
            exact ⟨rfl, b4.alloc b4.size _⟩
end Go.Proofs.Ytekcehicjggmiaa
