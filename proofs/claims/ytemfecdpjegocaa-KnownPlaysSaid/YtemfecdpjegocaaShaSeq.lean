/- What sha.spread hands back: a sequence of 64 words. -/
import Derived.Test.YtemfecdpjegocaaShaSpread
namespace Go.Proofs.Ytemfecdpjegocaa
open Go.RowKit Go.Shelf
set_option linter.unusedVariables false

def seqF (b : Nat) : Value := .func (.func 109) #[] #[.pointer (some ⟨b, 0, none⟩)]

set_option maxRecDepth 100000 in
theorem sha_spread (s : ByteArray) (w : World) :
    Calls Try.prog 95 #[.string s] w fun e w' => ∃ b, e = .returned (seqF b) ∧ w.heap.size ≤ b ∧ Below w.heap.size w w' ∧ Blk w' b #[.string s] 9 := by
  go_enter Try.func95, Try.ntmps95
  go_wp2_with fail
  go_returns
  exact ⟨_, rfl, Nat.le_refl _, (Below.refl _ _).alloc (Nat.le_refl _) _, Blk.new _ _ _⟩

theorem seq_spread (n : Nat) (Bs E : Nat) (s : ByteArray) (w : World) (hs : s.size = 64) (hE : E ≤ Bs) (hB : Blk w Bs #[.string s] 9) :
    SeqCells Fence.wide n Try.prog 109 #[.pointer (some ⟨Bs, 0, none⟩)] (encW (wS s.data.toList)) (KpC E) 64 w := by
  intro l J W hb hJ hY h0
  exact spread1_in n l Bs E s (wS s.data.toList) (fun k w hk => by
    rw [wS_lo _ _ hk]
    exact sha_word s k w (by omega) (by omega)) (fun k h16 h64 => wS_hi _ _ h16 h64) J W hJ hY hE (Below.blk hb hB hB.lt) h0
end Go.Proofs.Ytemfecdpjegocaa
