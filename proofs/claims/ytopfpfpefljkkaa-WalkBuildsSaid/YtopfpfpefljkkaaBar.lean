/- A region that draws its order, in two parts: the first n operations read under S, which need hold no longer once the others begin (all of these wait for all of the first). -/
import Derived.Deep.RegionHeld
import Derived.WalkKit
import Derived.StillTail
namespace Go.Proofs.Ytopfpfpefljkkaa
open Go.RowKit
set_option linter.unusedVariables false

section
variable {P : Program} {ops : Array Oper} {md : Region.Mode} {S : World → Prop} {Q : Exit → Act → World → Prop} {n : Nat}

/-- Those from n on wait for all ahead of n. -/
def barB (md : Region.Mode) (ops : Array Oper) (n : Nat) : Bool := (List.range ops.size).all fun t => decide (t < n) || (List.range n).all fun i => Region.waitsFor md ops t i
theorem barB_spec (hb : barB md ops n = true) {listed : Array Bool} {i j : Nat} (hi : i ∈ Region.ready md ops listed) (hin : i < n) (hj : j ∈ Region.ready md ops listed) : j < n := by
  obtain ⟨hju, oj, hoj, hall⟩ := mem_ready.1 hj
  have hjs : j < ops.size := (Array.getElem?_eq_some_iff.1 hoj).1
  have h1 := List.all_eq_true.1 hb j (List.mem_range.2 hjs)
  simp only [Bool.or_eq_true, decide_eq_true_eq] at h1
  rcases h1 with h1 | h1
  · exact h1
  · have h2 := List.all_eq_true.1 h1 i (List.mem_range.2 hin)
    obtain ⟨o', ho', e, he, hb', hon⟩ := Region.waitsFor_spec h2
    have : o' = oj := Option.some.inj (ho'.symm.trans hoj)
    subst this
    have h3 := hall e he hb'
    have h0 := (mem_ready.1 hi).1
    rw [hon] at h3
    rcases Nat.lt_or_ge i listed.size with h' | h'
    · simp [h'] at h0 h3; rw [h0] at h3; cases h3
    · simp [Array.getElem?_eq_none h'] at h3

/-- Whatever order is picked, and S holds behind each of the first n. -/
def wpAnyB (P : Program) (md : Region.Mode) (ops : Array Oper) (Q : Exit → Act → World → Prop) (S : World → Prop) (n : Nat) : Nat → Array Bool → Act → World → Prop
  | 0, listed, a, w => Region.ready md ops listed = [] ∧ Q .normal a w
  | fuel + 1, listed, a, w =>
    (Region.ready md ops listed = [] → Q .normal a w) ∧
    ∀ i ∈ Region.ready md ops listed, wpOp P ops Q i (fun a' w' => (i < n → S w') ∧ wpAnyB P md ops Q S n fuel (listed.setIfInBounds i true) a' w') a w
theorem wpAny_of_bar : ∀ (fuel : Nat) (listed : Array Bool) (a : Act) (w : World), wpAnyB P md ops Q S n fuel listed a w → wpAny P md ops Q fuel listed a w
  | 0, _, _, _, h => h
  | fuel + 1, _, _, _, h => ⟨h.1, fun i hi => wpOp_mono (fun a' w' h' => wpAny_of_bar fuel _ a' w' h'.2) (h.2 i hi)⟩

theorem wpAnyB_first {i : Nat} {oi : Oper} {v : Value} (hin : i < n) (hb : barB md ops n = true) (hi : ops[i]? = some oi) (hsel : ∀ (j : Nat) (o : Oper) cs b, ops[j]? = some o → o.op ≠ .select cs b)
    (hQ : ∀ c a w, Q (.panic c) (a.put oi.dst v) w → Q (.panic c) a w) :
    ∀ (fuel : Nat) (listed : Array Bool) (a : Act) (w : World),
      (∀ j oj, ops[j]? = some oj → j ≠ i → listed.getD j true = false → (∀ e ∈ oj.after, Region.binds md e = true → e.on ≠ i) → oi.apart ops oj = true) →
      i ∈ Region.ready md ops listed → YieldsIf P ops S oi v a → S w →
      wpAnyB P md ops Q S n fuel (listed.setIfInBounds i true) (a.put oi.dst v) w → wpAnyB P md ops Q S n (fuel + 1) listed a w := by
  intro fuel
  induction fuel with
  | zero =>
    intro listed a w _ hr hy hS H
    refine ⟨fun h => (by rw [h] at hr; cases hr), fun j hj => ?_⟩
    by_cases hji : j = i
    · subst hji; exact hy.wpOp hi hS ⟨fun _ => hS, H⟩
    · have := ready_mono hj hji
      rw [H.1] at this
      cases this
  | succ fuel ih =>
    intro listed a w hfree hr hy hS H
    refine ⟨fun h => (by rw [h] at hr; cases hr), fun j hj => ?_⟩
    by_cases hji : j = i
    · subst hji; exact hy.wpOp hi hS ⟨fun _ => hS, H⟩
    · have hjn := barB_spec hb hr hin hj
      have h1 := H.2 j (ready_mono hj hji)
      obtain ⟨hjun, oj, hoj, hall⟩ := mem_ready.1 hj
      have hnot : ∀ e ∈ oj.after, Region.binds md e = true → e.on ≠ i := fun e he hb heq => by
        have h1 := hall e he hb
        have h0 := (mem_ready.1 hr).1
        rw [heq] at h1
        rcases Nat.lt_or_ge i listed.size with h' | h'
        · simp [h'] at h0 h1; rw [h0] at h1; cases h1
        · simp [Array.getElem?_eq_none h'] at h1
      have h2 := wpOp_putIf hoj (hfree j oj hoj hji hjun hnot) (fun cs b => hsel i oi cs b hi) (fun cs b => hsel j oj cs b hoj) hQ hy h1
      have hfree' : ∀ k ok, ops[k]? = some ok → k ≠ i → (listed.setIfInBounds j true).getD k true = false →
          (∀ e ∈ ok.after, Region.binds md e = true → e.on ≠ i) → oi.apart ops ok = true := fun k ok hk hki hun hno => by
        refine hfree k ok hk hki ?_ hno
        by_cases hjk : j = k
        · subst hjk; exact hjun
        · rw [getD_set_ne true hjk] at hun; exact hun
      refine wpOp_mono (fun a' w' h3 => ⟨h3.2.1, ih (listed.setIfInBounds j true) a' w' hfree' (ready_mono hr (Ne.symm hji)) h3.1 (h3.2.1 hjn) ?_⟩) h2
      rw [Array.setIfInBounds_comm _ _ hji]
      exact h3.2.2

/-- One of the first n is taken first. -/
theorem wpAnyB_take {i : Nat} {oi : Oper} {v : Value} {fuel : Nat} {listed : Array Bool} {a : Act} {w : World} (hi : ops[i]? = some oi) (hin : decide (i < n) = true) (hb : barB md ops n = true)
    (hs : Region.noSelect ops = true) (hf : Region.free md ops listed i = true) (hr : (Region.ready md ops listed).contains i = true)
    (hQ : ∀ c a w, Q (.panic c) (a.put oi.dst v) w → Q (.panic c) a w) (hy : YieldsIf P ops S oi v a) (hS : S w)
    (h : wpAnyB P md ops Q S n fuel (listed.setIfInBounds i true) (a.put oi.dst v) w) : wpAnyB P md ops Q S n (fuel + 1) listed a w :=
  wpAnyB_first (by simpa using hin) hb hi (Region.noSelect_spec hs) hQ fuel listed a w (Region.free_spec hi hf) (by simpa using hr) hy hS h

/-- One stands alone. -/
theorem wpAnyB_one {i : Nat} {o : Oper} {fuel : Nat} {listed : Array Bool} {a : Act} {w : World} (hr : Region.ready md ops listed = [i]) (ho : ops[i]? = some o)
    (h : ∀ K' : Act → World → Prop, Shut (∀ a w, S w → (S w → wpAnyB P md ops Q S n fuel (listed.setIfInBounds i true) a w) → K' a w) → if Region.wanted o (yielded ops a.tmps) = true then Oper.wp P o a w K' Q else K' (a.put o.dst undef) w) :
    wpAnyB P md ops Q S n (fuel + 1) listed a w := by
  refine ⟨fun h0 => (by rw [hr] at h0; cases h0), fun j hj => ?_⟩
  rw [hr] at hj
  obtain rfl := List.mem_singleton.1 hj
  exact wpOp_step ho fun K' hK => h K' fun a w hS hW => hK a w ⟨fun _ => hS, hW hS⟩

/-- All of the first n have come up. -/
theorem wpAnyB_full : ∀ (fuel : Nat) (listed : Array Bool) (a : Act) (w : World), ((List.range n).all fun j => listed.getD j true) = true → wpAny P md ops Q fuel listed a w → wpAnyB P md ops Q S n fuel listed a w
  | 0, _, _, _, _, h => h
  | fuel + 1, listed, a, w, hf, h => ⟨h.1, fun i hi => by
    have hin : ¬ i < n := fun hin => by
      have h1 := List.all_eq_true.1 hf i (List.mem_range.2 hin)
      have h0 := (mem_ready.1 hi).1
      rcases Nat.lt_or_ge i listed.size with h' | h'
      · simp [h'] at h0 h1; rw [h0] at h1; cases h1
      · simp [Array.getElem?_eq_none h'] at h0
    refine wpOp_mono (fun a' w' h' => ⟨fun h => absurd h hin, wpAnyB_full fuel _ a' w' ?_ h'⟩) (h.2 i hi)
    refine List.all_eq_true.2 fun j hj => ?_
    have h1 := List.all_eq_true.1 hf j hj
    by_cases hij : i = j
    · exact absurd (hij ▸ List.mem_range.1 hj) hin
    · rw [getD_set_ne true hij]; exact h1⟩

theorem wp_region_bar {id : Nat} {a : Act} {w : World} (n : Nat) (hm : P.follows .mixedOrders = true) (hS : S w.drew)
    (h : S w.drew → wpAnyB P .any ops Q S n ops.size (Array.replicate ops.size false) a w.drew) : (Code.region id ops true).wp P Q a w :=
  wp_region_any hm (wpAny_of_bar _ _ _ _ (h hS))
end
end Go.Proofs.Ytopfpfpefljkkaa
