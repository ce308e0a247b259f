/- The document's spin, choice, vote. -/
import Derived.Test.YtemfecdpjegocaaShaMixIn
import Derived.WalkSpells
namespace Go.Proofs.Ytemfecdpjegocaa
open Go.RowKit Go.Shelf
set_option linter.unusedVariables false
set_option linter.unusedSimpArgs false

set_option maxRecDepth 100000 in
theorem ref_choice (e f g : UInt32) (w : World) :
    Calls Try.prog 83 #[.int .u32 e.toNat, .int .u32 f.toNat, .int .u32 g.toNat] w fun en w' => en = .returned (.int .u32 ((e &&& f) ^^^ (~~~ e &&& g)).toNat) ∧ w = w' := by
  have h1 := Lib.hid (L_and e f)
  have h2 := Lib.hid (L_xor e 4294967295)
  have h3 := Lib.hid (L_and (e ^^^ 4294967295) g)
  have h4 := Lib.hid (L_or (e &&& f) ((e ^^^ 4294967295) &&& g))
  have h5 := Lib.hid (choice_eq e f g)
  go_enter Try.func83, Try.ntmps83
  go_wp2_with fail
  go_returns
  refine ⟨congrArg (fun z => Ending.returned (Value.int .u32 z)) ?_, rfl⟩
  rw [h5.out, ← h4.out, ← h3.out, ← h2.out, ← h1.out]; rfl

set_option maxRecDepth 100000 in
theorem ref_vote (a b c : UInt32) (w : World) :
    Calls Try.prog 84 #[.int .u32 a.toNat, .int .u32 b.toNat, .int .u32 c.toNat] w fun en w' => en = .returned (.int .u32 ((a &&& b) ^^^ (a &&& c) ^^^ (b &&& c)).toNat) ∧ w = w' := by
  have h1 := Lib.hid (L_and a b)
  have h2 := Lib.hid (L_and a c)
  have h3 := Lib.hid (L_and b c)
  have h4 := Lib.hid (L_or (a &&& b) (a &&& c))
  have h6 := Lib.hid (L_or (a &&& b ||| a &&& c) (b &&& c))
  have h5 := Lib.hid (vote_eq a b c)
  go_enter Try.func84, Try.ntmps84
  go_wp2_with fail
  go_returns
  refine ⟨congrArg (fun z => Ending.returned (Value.int .u32 z)) ?_, rfl⟩
  rw [h5.out, ← h6.out, ← h4.out, ← h3.out, ← h2.out, ← h1.out]

set_option maxRecDepth 100000 in
theorem ref_spin (x : UInt32) (n : Nat) (w : World) (h1 : 1 ≤ n) (h2 : n ≤ 31) :
    Calls Try.prog 82 #[.int .u32 x.toNat, .int .u64 n] w fun en w' => en = .returned (.int .u32 (rotr x n).toNat) ∧ w = w' := by
  have hr := Lib.hid (L_rot' x n)
  go_enter Try.func82, Try.ntmps82
  go_wp2_with fail
  go_returns
  refine ⟨congrArg (fun z => Ending.returned (Value.int .u32 z)) ?_, rfl⟩
  rw [← hr.out]
end Go.Proofs.Ytemfecdpjegocaa
