/- A region that draws its order, walked in the class of worlds that meet an invariant. -/
import Derived.Test.YtopfpfpefljkkaaTail
namespace Go.Proofs.Ytopfpfpefljkkaa
open Go.RowKit
set_option linter.unusedVariables false

/-- The worlds that meet I. -/
structure FutI (I : World → Prop) where
  at_ : World
  is : I at_

section
variable {P : Program} {I : World → Prop}

theorem wp_region_inv {id : Nat} {Q : Exit → Act → World → Prop} {a : Act} {w : World} {l : List Oper} (hI : I { w with drawn := w.drawn + 1 }) (hm : P.follows .mixedOrders = true) (hB : Region.lexB .any l.toArray = true)
    (h : Nonempty (FutI I) → wpQuiet P l.toArray (fun w' => ∃ x : FutI I, w' = x.at_) (fun a' => ∀ x : FutI I, Q .normal a' x.at_) l a) : (Code.region id l.toArray true).wp P Q a w := by
  refine wp_region_quiet (C := fun w' => ∃ x : FutI I, w' = x.at_) hm hB ⟨⟨_, hI⟩, rfl⟩ ?_
  have e : (fun a' : Act => ∀ w', (∃ x : FutI I, w' = x.at_) → Q .normal a' w') = fun a' => ∀ x : FutI I, Q .normal a' x.at_ := by
    funext a'
    exact propext ⟨fun h x => h _ ⟨x, rfl⟩, fun h w' ⟨x, hx⟩ => hx ▸ h x⟩
  rw [e]
  simpa using h ⟨⟨_, hI⟩⟩
theorem wp_region_inv_tail {id : Nat} {Q : Exit → Act → World → Prop} {a : Act} {w : World} {l : List Oper} (n : Nat) (hI : I { w with drawn := w.drawn + 1 }) (hm : P.follows .mixedOrders = true) (hB : Region.lexTailB .any l.toArray n = true)
    (h : Nonempty (FutI I) → wpQuiet P l.toArray (fun w' => ∃ x : FutI I, w' = x.at_) (fun a' => ∀ x : FutI I, wpList P l.toArray Q (l.drop n) a' x.at_) (l.take n) a) : (Code.region id l.toArray true).wp P Q a w := by
  refine wp_region_quiet_tail (C := fun w' => ∃ x : FutI I, w' = x.at_) n hm hB ⟨⟨_, hI⟩, rfl⟩ ?_
  have e : (fun a' : Act => ∀ w', (∃ x : FutI I, w' = x.at_) → wpList P l.toArray Q (l.drop n) a' w') = fun a' => ∀ x : FutI I, wpList P l.toArray Q (l.drop n) a' x.at_ := by
    funext a'
    exact propext ⟨fun h x => h _ ⟨x, rfl⟩, fun h w' ⟨x, hx⟩ => hx ▸ h x⟩
  rw [e]
  exact h ⟨⟨_, hI⟩⟩
theorem Calls.inv {f : FuncId} {args : Array Value} {x : FutI I} {v : Value} (h : Calls P f args x.at_ fun e w' => e = .returned v ∧ I w') :
    Calls P f args x.at_ fun e w'' => e = .returned v ∧ ∃ y : FutI I, w'' = y.at_ := h.mono fun _ w' ⟨he, hw⟩ => ⟨he, ⟨w', hw⟩, rfl⟩
end
end Go.Proofs.Ytopfpfpefljkkaa
