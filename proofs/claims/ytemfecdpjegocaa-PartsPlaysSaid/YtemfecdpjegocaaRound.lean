/- A region that draws its order, within a round of 'for x := range seq', at the wide fence: as everywhere. -/
import Derived.Test.YtemfecdpjegocaaRange
import Derived.OrdersIn
namespace Go.Proofs.Ytemfecdpjegocaa
open Go.RowKit
set_option linter.unusedVariables false

variable {P : Program} {ops : Array Oper} {Q : Exit → Act → World → Prop} {md : Region.Mode} {n : Nat}

theorem uponR (l : Nat) {o : Oper} {a : Act} {K : Act → World → Prop} : ∀ (r : Result Next), o.upon P a K Q r → o.uponIn (Fence.wide.inRound l) n P a K Q r
  | .ok (.value v) w', h => h
  | .ok .skip w', h => h
  | .ok (.defer d) w', h => h
  | .ok (.enter f args) w', h => ⟨(fun h => by cases h), CallsIn.inRound l (callsIn_wide.2 h)⟩
  | .ok (.row row args) w', h => ⟨(fun h => by cases h), fun c cs _ => by
      obtain ⟨v, w2, hr, hs⟩ := h c cs
      exact ⟨v, w2, hr, stepsIn_wide.2 hs⟩⟩
  | .ok (.round _ _ _ _ _) w', h => h.elim
  | .halt (.panic v) w', h => h
  | .halt (.exit _) w', h => h.elim
  | .halt (.stuck _) w', h => h.elim
  | .halt (.unsupported _) w', h => h.elim

theorem wpOpR (l : Nat) (hd : ∀ (i : Nat) (o : Oper) c, ops[i]? = some o → o.op ≠ .defer c) (hL : ¬ LetsOut Q) {K K' : Act → World → Prop} (hK : ∀ a w, K a w → K' a w) {i : Nat} {a : Act} {w : World} (h : wpOp P ops Q i K a w) :
    wpOpIn (Fence.wide.inRound l) n P ops Q i K' a w := by
  refine wpOpIn_mono hK ?_
  unfold wpOp at h
  unfold wpOpIn
  split
  · rename_i ho; simp only [ho] at h; exact h
  · rename_i o ho
    simp only [ho] at h
    split
    · rename_i hw
      simp only [hw, if_true] at h
      rcases h with h | ⟨_, h⟩
      · refine ⟨fun _ _ => trivial, ?_⟩
        rw [Oper.semAt_plain _ _ _ (fun c => hd i o c ho)]
        exact uponR l _ h
      · exact absurd h hL
    · rename_i hw
      simp only [hw] at h
      exact ⟨fun _ _ => trivial, h⟩

theorem wpAnyR (l : Nat) (hd : ∀ (i : Nat) (o : Oper) c, ops[i]? = some o → o.op ≠ .defer c) (hL : ¬ LetsOut Q) : ∀ (fuel : Nat) (listed : Array Bool) (a : Act) (w : World), wpAny P md ops Q fuel listed a w →
    wpAnyIn (Fence.wide.inRound l) n P md ops Q fuel listed a w
  | 0, _, _, _, h => h
  | fuel + 1, listed, a, w, h => ⟨h.1, fun i hi => wpOpR l hd hL (fun a' w' h' => wpAnyR l hd hL fuel _ a' w' h') (h.2 i hi)⟩

def noDefers (ops : Array Oper) : Bool := ops.all fun o => match o.op with | .defer _ => false | _ => true
theorem noDefers_spec (h : noDefers ops = true) (i : Nat) (o : Oper) (c : Call) (ho : ops[i]? = some o) : o.op ≠ .defer c := by
  intro e
  have h1 := Array.all_eq_true.1 h i (Array.getElem?_eq_some_iff.1 ho).1
  rw [(Array.getElem?_eq_some_iff.1 ho).2, e] at h1
  cases h1

/-- Its operations quiet in the class of w behind draws. -/
theorem wpR_region_quiet {id : Nat} {a : Act} {w : World} {l : List Oper} (r : Nat) (hm : P.follows .mixedOrders = true) (hB : Region.lexB .any l.toArray = true) (hd : noDefers l.toArray = true) (hL : ¬ LetsOut Q)
    (h : wpQuiet P l.toArray (fun w' => ∃ k, w' = w.drewN k) (fun a' => ∀ k, Q .normal a' (w.drewN k)) l a) : (Code.region id l.toArray true).wpIn (Fence.wide.inRound r) n P Q a w := by
  refine wpIn_region_any hm (wpAnyR r (noDefers_spec hd) hL _ _ _ _ ?_)
  have e : (fun a' : Act => ∀ k, Q .normal a' (w.drewN k)) = fun a' => ∀ w', (∃ k, w' = w.drewN k) → Q .normal a' w' := by
    funext a'
    exact propext ⟨fun h w' ⟨k, hk⟩ => hk ▸ h k, fun h k => h _ ⟨k, rfl⟩⟩
  rw [e] at h
  simp only [Region.lexB, Bool.and_eq_true] at hB
  refine wpAny_of_quiet (C := fun w' => ∃ k, w' = w.drewN k) (Q := fun a' => ∀ w', (∃ k, w' = w.drewN k) → Q .normal a' w') (fun _ w' hw' h => h w' hw') _ _ _ _ ⟨1, rfl⟩ ?_
  have := wpAnyQ_lex (C := fun w' => ∃ k, w' = w.drewN k) (md := .any) hB.1 l 0 (Array.replicate l.toArray.size false) a (by simp) (by simpa using hB.2) h
  simpa using this
end Go.Proofs.Ytemfecdpjegocaa
