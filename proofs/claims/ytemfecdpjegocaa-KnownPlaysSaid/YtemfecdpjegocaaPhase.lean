/- A region that draws its order: first operations one by one (Derived/OrdersHeld.lean's laws), then quiet ones in the lexical order. -/
import Derived.Test.YtemfecdpjegocaaInv
import Derived.Deep.RegionHeld
namespace Go.Proofs.Ytemfecdpjegocaa
open Go.RowKit
set_option linter.unusedVariables false

section
variable {P : Program} {ops : Array Oper} {md : Region.Mode} {C S : World → Prop} {Q : Exit → Act → World → Prop}

theorem anyH_of_quiet (hCS : ∀ w, C w → S w) : ∀ (fuel : Nat) (listed : Array Bool) (a : Act) (w : World), C w → wpAnyQ P md ops C (fun a' => ∀ w', C w' → Q .normal a' w') fuel listed a →
    wpAnyH P md ops Q S fuel listed a w
  | 0, listed, a, w, hw, h => ⟨h.1, h.2 w hw⟩
  | fuel + 1, listed, a, w, hw, h => ⟨fun h0 => h.1 h0 w hw, fun i hi => wpOp_of_qOp hw (fun a' w' hw' h' => ⟨hCS w' hw', anyH_of_quiet hCS fuel _ a' w' hw' h'⟩) (h.2 i hi)⟩

theorem anyH_mono {S' : World → Prop} (hS : ∀ w, S' w → S w) : ∀ (fuel : Nat) (listed : Array Bool) (a : Act) (w : World), wpAnyH P md ops Q S' fuel listed a w → wpAnyH P md ops Q S fuel listed a w
  | 0, _, _, _, h => h
  | fuel + 1, listed, a, w, h => ⟨h.1, fun i hi => wpOp_mono (fun a' w' h' => ⟨hS w' h'.1, anyH_mono hS fuel _ a' w' h'.2⟩) (h.2 i hi)⟩

/-- Behind k operations: the rest is quiet in the class of w behind draws. -/
theorem anyH_tail (k : Nat) {l : List Oper} {listed : Array Bool} {a : Act} {w : World} {n : Nat} (hn : (l.drop k).length = n) (hs : Region.noSelect l.toArray = true) (hB : Region.lexFrom md l.toArray n k listed = true)
    (hCS : ∀ j, S (w.drewN j))
    (h : wpQuiet P l.toArray (fun w' => ∃ j, w' = w.drewN j) (fun a' => ∀ w', (∃ j, w' = w.drewN j) → Q .normal a' w') (l.drop k) a) : wpAnyH P md l.toArray Q S n listed a w := by
  subst hn
  exact anyH_of_quiet (C := fun w' => ∃ j, w' = w.drewN j) (fun _ ⟨j, hj⟩ => hj ▸ hCS j) _ listed a w ⟨0, rfl⟩
    (wpAnyQ_lex hs (l.drop k) k listed a (fun j => by simp [List.getElem?_drop]) hB h)
end
end Go.Proofs.Ytemfecdpjegocaa
