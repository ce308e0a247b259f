/- A region that draws its order: a head of reads and calls in whatever order, then ONE operation that waits for all of the head, then operations that wait for it. -/
import Derived.Test.YtopfpfpefljkkaaTail
namespace Go.Proofs.Ytopfpfpefljkkaa
open Go.RowKit
set_option linter.unusedVariables false
set_option linter.unusedSimpArgs false

section
variable {P : Program} {ops : Array Oper} {md : Region.Mode} {C : World → Prop}

def treeB (md : Region.Mode) (ops : Array Oper) (n : Nat) : Bool :=
  (List.range ops.size).all fun t => decide (t ≤ n) || (List.range t).any fun j => decide (n ≤ j) && Region.waitsFor md ops t j

theorem tail_waitsT {n : Nat} {listed : Array Bool} (hs : Region.sinkB md ops n = true) (hc : treeB md ops n = true) (hn : n < ops.size) (inv : HeadInv md ops n listed) :
    ∀ (d i : Nat), n - i = d → i < n → listed.getD i true = false → ∀ t, n ≤ t → t ∉ Region.ready md ops listed := by
  intro d
  induction d using Nat.strongRecOn with
  | _ d ih =>
    intro i hd hi hun t ht hr
    obtain ⟨_, ot, hot, hall⟩ := mem_ready.1 hr
    have htlt : t < ops.size := (Array.getElem?_eq_some_iff.1 hot).1
    by_cases htn : t = n
    · subst htn
      have h1 := List.all_eq_true.1 hs i (List.mem_range.2 hi)
      obtain ⟨j, hj, hj2⟩ := List.any_eq_true.1 h1
      simp only [Bool.and_eq_true, decide_eq_true_eq] at hj2
      obtain ⟨oj, hoj, e, he, hb, hon⟩ := Region.waitsFor_spec hj2.2
      have hjle : j ≤ t := by have := List.mem_range.1 hj; omega
      by_cases hjt : j = t
      · subst hjt
        have : oj = ot := Option.some.inj (hoj.symm.trans hot)
        subst this
        have h2 := hall e he hb
        rw [hon, getD_both hun] at h2
        cases h2
      · cases hl : listed.getD j false with
        | true =>
          have h2 := inv.closed j oj hoj hl e he hb
          rw [hon, getD_both hun] at h2
          cases h2
        | false =>
          have hjs : j < listed.size := by rw [inv.size]; omega
          exact ih (t - j) (by omega) j rfl (by omega) (getD_in hjs hl) t (Nat.le_refl _) hr
    · have h1 := List.all_eq_true.1 hc t (List.mem_range.2 htlt)
      simp only [Bool.or_eq_true, decide_eq_true_eq] at h1
      rcases h1 with h1 | h1
      · omega
      · obtain ⟨j, hj, hj2⟩ := List.any_eq_true.1 h1
        simp only [Bool.and_eq_true, decide_eq_true_eq] at hj2
        have hjt := List.mem_range.1 hj
        obtain ⟨o', ho', e, he, hb, hon⟩ := Region.waitsFor_spec hj2.2
        have : o' = ot := Option.some.inj (ho'.symm.trans hot)
        subst this
        have h2 := hall e he hb
        rw [hon, getD_both (inv.tail j hj2.1 (by omega))] at h2
        cases h2

def sinkB1 (md : Region.Mode) (ops : Array Oper) (n : Nat) : Bool :=
  (List.range n).all fun i => decide (i = 0) || (List.range (n + 1)).any fun j => decide (i < j) && Region.waitsFor md ops j i
theorem tail_waits1 {n : Nat} {listed : Array Bool} (hs : sinkB1 md ops n = true) (hc : treeB md ops n = true) (hn : n < ops.size) (inv : HeadInv md ops n listed) (h00 : listed.getD 0 false = true) :
    ∀ (d i : Nat), n - i = d → i < n → listed.getD i true = false → ∀ t, n ≤ t → t ∉ Region.ready md ops listed := by
  intro d
  induction d using Nat.strongRecOn with
  | _ d ih =>
    intro i hd hi hun t ht hr
    obtain ⟨_, ot, hot, hall⟩ := mem_ready.1 hr
    have htlt : t < ops.size := (Array.getElem?_eq_some_iff.1 hot).1
    by_cases htn : t = n
    · subst htn
      have h1 := List.all_eq_true.1 hs i (List.mem_range.2 hi)
      have hi0 : i ≠ 0 := fun e0 => by
        subst e0
        rw [getD_both hun] at h00
        cases h00
      simp only [Bool.or_eq_true, decide_eq_true_eq, hi0, false_or] at h1
      obtain ⟨j, hj, hj2⟩ := List.any_eq_true.1 h1
      simp only [Bool.and_eq_true, decide_eq_true_eq] at hj2
      obtain ⟨oj, hoj, e, he, hb, hon⟩ := Region.waitsFor_spec hj2.2
      have hjle : j ≤ t := by have := List.mem_range.1 hj; omega
      by_cases hjt : j = t
      · subst hjt
        have : oj = ot := Option.some.inj (hoj.symm.trans hot)
        subst this
        have h2 := hall e he hb
        rw [hon, getD_both hun] at h2
        cases h2
      · cases hl : listed.getD j false with
        | true =>
          have h2 := inv.closed j oj hoj hl e he hb
          rw [hon, getD_both hun] at h2
          cases h2
        | false =>
          have hjs : j < listed.size := by rw [inv.size]; omega
          exact ih (t - j) (by omega) j rfl (by omega) (getD_in hjs hl) t (Nat.le_refl _) hr
    · have h1 := List.all_eq_true.1 hc t (List.mem_range.2 htlt)
      simp only [Bool.or_eq_true, decide_eq_true_eq] at h1
      rcases h1 with h1 | h1
      · omega
      · obtain ⟨j, hj, hj2⟩ := List.any_eq_true.1 h1
        simp only [Bool.and_eq_true, decide_eq_true_eq] at hj2
        have hjt := List.mem_range.1 hj
        obtain ⟨o', ho', e, he, hb, hon⟩ := Region.waitsFor_spec hj2.2
        have : o' = ot := Option.some.inj (ho'.symm.trans hot)
        subst this
        have h2 := hall e he hb
        rw [hon, getD_both (inv.tail j hj2.1 (by omega))] at h2
        cases h2

theorem headQ_firstT {Inv : Array Bool → Prop} {n i : Nat} {oi : Oper} {v : Value} {L : Array Bool → Act → Prop} (hset : ∀ listed j, Inv listed → j ∈ Region.ready md ops listed → j < n → Inv (listed.setIfInBounds j true)) (hi : ops[i]? = some oi) (hsel : ∀ (j : Nat) (o : Oper) cs b, ops[j]? = some o → o.op ≠ .select cs b)
    (hw : ∀ listed, Inv listed → ∀ i, i < n → listed.getD i true = false → ∀ t, n ≤ t → t ∉ Region.ready md ops listed) (hin : i < n) (hdone : ∀ listed a, L listed a → ∀ j ∈ Region.ready md ops listed, n ≤ j) :
    ∀ (f : Nat) (listed : Array Bool) (a : Act), Inv listed →
      (∀ j oj, ops[j]? = some oj → j ≠ i → listed.getD j true = false → (∀ e ∈ oj.after, Region.binds md e = true → e.on ≠ i) → oi.apart ops oj = true) →
      i ∈ Region.ready md ops listed → YieldsIn P ops C oi v a →
      headQ P md ops C n L f (listed.setIfInBounds i true) (a.put oi.dst v) → headQ P md ops C n L (f + 1) listed a := by
  intro f
  induction f with
  | zero =>
    intro listed a inv _ hr hy H
    have hun := (mem_ready.1 hr).1
    refine ⟨fun h => (by rw [h] at hr; cases hr), fun j hj => ?_⟩
    have hjn : j < n := by
      rcases Nat.lt_or_ge j n with h | h
      · exact h
      · exact absurd hj (hw _ inv i hin hun j h)
    refine ⟨hjn, ?_⟩
    by_cases hji : j = i
    · subst hji; exact hy.qOp hi H
    · have := hdone _ _ H j (ready_mono hj hji)
      omega
  | succ f ih =>
    intro listed a inv hfree hr hy H
    have hun := (mem_ready.1 hr).1
    refine ⟨fun h => (by rw [h] at hr; cases hr), fun j hj => ?_⟩
    have hjn : j < n := by
      rcases Nat.lt_or_ge j n with h | h
      · exact h
      · exact absurd hj (hw _ inv i hin hun j h)
    refine ⟨hjn, ?_⟩
    by_cases hji : j = i
    · subst hji; exact hy.qOp hi H
    · have h1 := (H.2 j (ready_mono hj hji)).2
      obtain ⟨hjun, oj, hoj, hall⟩ := mem_ready.1 hj
      have hnot : ∀ e ∈ oj.after, Region.binds md e = true → e.on ≠ i := fun e he hb heq => by
        have h1 := hall e he hb
        rw [heq, getD_both hun] at h1
        cases h1
      have h2 := qOp_put hoj (hfree j oj hoj hji hjun hnot) (fun cs b => hsel i oi cs b hi) (fun cs b => hsel j oj cs b hoj) hy h1
      have hfree' : ∀ k ok, ops[k]? = some ok → k ≠ i → (listed.setIfInBounds j true).getD k true = false →
          (∀ e ∈ ok.after, Region.binds md e = true → e.on ≠ i) → oi.apart ops ok = true := fun k ok hk hki hun hno => by
        refine hfree k ok hk hki ?_ hno
        by_cases hjk : j = k
        · subst hjk; exact hjun
        · rw [getD_set_ne true hjk] at hun; exact hun
      refine qOp_mono (fun a' h3 => ih (listed.setIfInBounds j true) a' (hset _ _ inv hj hjn) hfree' (ready_mono hr (Ne.symm hji)) h3.1 ?_) h2
      rw [Array.setIfInBounds_comm _ _ hji]
      exact h3.2

/-- The first n in the text's order; behind them the listing is fin, and what is ready lies behind n. -/
def lexT (md : Region.Mode) (ops : Array Oper) (fin : Array Bool) (n : Nat) : Nat → Nat → Array Bool → Bool
  | 0, _, listed => decide (listed = fin) && (Region.ready md ops fin).all fun j => decide (n ≤ j)
  | f + 1, k, listed => (Region.ready md ops listed).contains k && Region.free md ops listed k && lexT md ops fin n f (k + 1) (listed.setIfInBounds k true)

theorem headQ_lexT {Inv : Array Bool → Prop} {n : Nat} {fin : Array Bool} {Lq : Act → Prop} (hsel : Region.noSelect ops = true) (hset : ∀ listed j, Inv listed → j ∈ Region.ready md ops listed → j < n → Inv (listed.setIfInBounds j true))
    (hw : ∀ listed, Inv listed → ∀ i, i < n → listed.getD i true = false → ∀ t, n ≤ t → t ∉ Region.ready md ops listed) :
    ∀ (l : List Oper) (k : Nat) (listed : Array Bool) (a : Act), (∀ j, j < l.length → l[j]? = ops[k + j]?) → k + l.length = n → Inv listed →
    lexT md ops fin n l.length k listed = true → wpQuiet P ops C Lq l a →
    headQ P md ops C n (fun listed' a' => (listed' = fin ∧ ∀ j ∈ Region.ready md ops fin, n ≤ j) ∧ Lq a') l.length listed a
  | [], k, listed, a, _, hk, _, hB, h => by
    simp only [List.length_nil, lexT, Bool.and_eq_true, decide_eq_true_eq, List.all_eq_true] at hB
    exact ⟨hB, h⟩
  | o :: l, k, listed, a, hl, hk, inv, hB, h => by
    have h0 : ops[k]? = some o := by simpa using (hl 0 (by simp)).symm
    simp only [List.length_cons, lexT, Bool.and_eq_true] at hB
    obtain ⟨⟨hr, hf⟩, hB'⟩ := hB
    have hkn : k < n := by simp only [List.length_cons] at hk; omega
    have hr' : k ∈ Region.ready md ops listed := by simpa using hr
    have hst : qOp P ops C k (wpQuiet P ops C Lq l) a := by unfold qOp; simp only [h0]; exact h
    obtain ⟨v, hy, hK⟩ := yieldsIn_of_qOp h0 hst
    exact headQ_firstT hset h0 (Region.noSelect_spec hsel) hw hkn (fun listed' a' hL => by rw [hL.1.1]; exact hL.1.2) l.length listed a inv (Region.free_spec h0 hf) hr' hy
      (headQ_lexT hsel hset hw l (k + 1) _ _ (fun j hj => by have := hl (j + 1) (by simp; omega); simpa [Nat.add_assoc, Nat.add_comm 1 j] using this) (by simp only [List.length_cons] at hk; omega) (hset _ _ inv hr' hkn) hB' hK)

def closedB (md : Region.Mode) (ops : Array Oper) (listed : Array Bool) : Bool :=
  decide (listed.size = ops.size) && (List.range ops.size).all fun j => !(listed.getD j false) || (match ops[j]? with | some oj => oj.after.all fun e => !(Region.binds md e) || listed.getD e.on false | none => true)
theorem closedB_inv {listed : Array Bool} (h : closedB md ops listed = true) : HeadInv md ops ops.size listed := by
  simp only [closedB, Bool.and_eq_true, decide_eq_true_eq, List.all_eq_true] at h
  refine ⟨h.1, fun j oj hj hl e he hb => ?_, fun t h1 h2 => by omega⟩
  have hjlt : j < ops.size := (Array.getElem?_eq_some_iff.1 hj).1
  have := h.2 j (List.mem_range.2 hjlt)
  rw [hl, hj] at this
  simp only [Bool.not_true, Bool.false_or, Array.all_eq_true_iff_forall_mem, Bool.or_eq_true, Bool.not_eq_true'] at this
  rcases this e he with h3 | h3
  · rw [hb] at h3; cases h3
  · exact h3

/-- K behind the normal end, Q behind any other. -/
def mixQ (K : Act → World → Prop) (Q : Exit → Act → World → Prop) : Exit → Act → World → Prop
  | .normal, a, w => K a w
  | e, a, w => Q e a w
theorem mix_wp {o : Oper} {a : Act} {w : World} {K : Act → World → Prop} {Q : Exit → Act → World → Prop} (h : o.wp P a w (wpList P ops (mixQ K Q) []) (mixQ K Q)) : o.wp P a w K Q := by
  unfold Oper.wp at *
  generalize (execOp a.eval o).run P w = r at *
  cases r with
  | ok n w' =>
    cases n with
    | value v => exact h
    | skip => exact h
    | defer d => exact h
    | enter f args => exact Calls.mono h fun e w'' he => (by cases e <;> exact he)
    | _ => exact h
  | halt e w' => cases e <;> exact h
theorem wpOp_of_mix {n : Nat} {o : Oper} {a : Act} {w : World} {K : Act → World → Prop} {Q : Exit → Act → World → Prop} (ho : ops[n]? = some o) (h : wpList P ops (mixQ K Q) [o] a w) : wpOp P ops Q n K a w := by
  unfold wpOp
  simp only [ho]
  unfold wpList at h
  split
  · rename_i hw
    rw [if_pos hw] at h
    rcases h with h | ⟨h1, h2⟩
    · exact .inl (mix_wp h)
    · exact .inr ⟨h1, h2⟩
  · rename_i hw
    rw [if_neg hw] at h
    exact h
def treeOk (ops : Array Oper) (n : Nat) : Bool :=
  let f1 := Array.replicate n true ++ Array.replicate (ops.size - n) false
  let f2 := Array.replicate (n + 1) true ++ Array.replicate (ops.size - (n + 1)) false
  Region.noSelect ops && decide (n < ops.size) && Region.sinkB .any ops n && treeB .any ops n && lexT .any ops f1 n n 0 (Array.replicate ops.size false) &&
    decide (Region.ready .any ops f1 = [n]) && decide (f1.setIfInBounds n true = f2) && closedB .any ops f2 && lexT .any ops (Array.replicate ops.size true) ops.size (ops.size - (n + 1)) (n + 1) f2

theorem wp_region_after_tree {id : Nat} {Q : Exit → Act → World → Prop} {a : Act} {w : World} {l : List Oper} (n : Nat) (o : Oper) (hm : P.follows .mixedOrders = true) (hB : treeOk l.toArray n = true) (ho : l[n]? = some o)
    (h : wpQuiet P l.toArray (fun w' => ∃ x : Fut w, w' = x.at_) (fun a' => ∀ x : Fut w, ∀ Q2 : Exit → Act → World → Prop, (∀ a2 w2, wpQuiet P l.toArray (fun w' => w' = w2) (fun a3 => Q .normal a3 w2) (l.drop (n + 1)) a2 → Q2 .normal a2 w2) → wpList P l.toArray Q2 [o] a' x.at_) (l.take n) a) :
    (Code.region id l.toArray true).wp P Q a w := by
  simp only [treeOk, Bool.and_eq_true, decide_eq_true_eq] at hB
  obtain ⟨⟨⟨⟨⟨⟨⟨⟨hsel, hn⟩, hs⟩, ht⟩, hlex⟩, hr1⟩, hf2⟩, hcl⟩, hlex2⟩ := hB
  generalize hf1 : Array.replicate n true ++ Array.replicate (l.toArray.size - n) false = f1 at *
  generalize hf3 : Array.replicate (n + 1) true ++ Array.replicate (l.toArray.size - (n + 1)) false = f2 at *
  clear hf1 hf3
  have hn' : n < l.length := by simpa using hn
  have htl : (l.take n).length = n := by simp; omega
  have hdl : (l.drop (n + 1)).length = l.toArray.size - (n + 1) := by simp
  have inv0 : HeadInv .any l.toArray n (Array.replicate l.toArray.size false) :=
    ⟨by simp, fun j oj _ hl => (by rw [getD_replicate_false] at hl; cases hl), fun t _ ht => getD_in (by simpa using ht) (getD_replicate_false _ _)⟩
  have H := headQ_lexT (P := P) (md := .any) (C := fun w' => ∃ x : Fut w, w' = x.at_) (fin := f1) (Inv := HeadInv .any l.toArray n) hsel (fun _ _ inv hj hjn => inv.set hj hjn) (fun listed inv i hi hu => tail_waitsT hs ht hn inv _ i rfl hi hu) (l.take n) 0 _ a (fun j hj => by
    have hj' : j < n := by rw [htl] at hj; exact hj
    simp [hj']) (by simpa using htl) inv0 (by rw [htl]; exact hlex) h
  refine wp_region_any hm ?_
  have := any_of_headQ (Q := Q) (g := l.toArray.size - n) (fun listed a' w' hw' hL => by
    obtain ⟨⟨rfl, _⟩, hL⟩ := hL
    obtain ⟨x, rfl⟩ := hw'
    rw [show l.toArray.size - n = (l.toArray.size - (n + 1)) + 1 by omega]
    refine ⟨fun h1 => (by rw [hr1] at h1; cases h1), fun i hi => ?_⟩
    rw [hr1] at hi
    obtain rfl : i = n := by simpa using hi
    refine wpOp_of_mix (o := o) (by simpa using ho) (hL x _ fun a2 w2 hq => ?_)
    show wpAny P .any l.toArray Q (l.toArray.size - (i + 1)) (listed.setIfInBounds i true) a2 w2
    rw [hf2]
    have H2 := headQ_lexT (P := P) (md := .any) (n := l.toArray.size) (C := fun w' => w' = w2) (fin := Array.replicate l.toArray.size true) (Inv := HeadInv .any l.toArray l.toArray.size) hsel (fun _ _ inv hj hjn => inv.set hj hjn) (fun listed inv i hi hu t ht hr => by
      obtain ⟨_, ot, hot, _⟩ := mem_ready.1 hr
      have := (Array.getElem?_eq_some_iff.1 hot).1
      omega) (l.drop (i + 1)) (i + 1) f2 a2 (fun j hj => by simp [List.getElem?_drop]) (by rw [hdl]; omega) (closedB_inv hcl) (by rw [hdl]; exact hlex2) hq
    have H3 := any_of_headQ (P := P) (md := .any) (ops := l.toArray) (n := l.toArray.size) (C := fun w' => w' = w2) (L := fun listed' a' => (listed' = Array.replicate l.toArray.size true ∧ ∀ j ∈ Region.ready .any l.toArray (Array.replicate l.toArray.size true), l.toArray.size ≤ j) ∧ Q .normal a' w2) (Q := Q) (g := 0) (fun listed a' w' hw' hL => by
      obtain ⟨⟨rfl, he⟩, hL⟩ := hL
      subst hw'
      refine ⟨List.eq_nil_iff_forall_not_mem.2 fun j hj => ?_, hL⟩
      have h1 := he j hj
      obtain ⟨_, ot, hot, _⟩ := mem_ready.1 hj
      have := (Array.getElem?_eq_some_iff.1 hot).1
      omega) _ _ _ w2 rfl H2
    rw [hdl] at H3
    exact H3) _ _ _ _ ⟨⟨_, (Below.refl _ _).drew⟩, rfl⟩ H
  rw [htl, show n + (l.toArray.size - n) = l.toArray.size by omega] at this
  exact this
def treeOk1 (ops : Array Oper) (n : Nat) : Bool :=
  let f1 := Array.replicate n true ++ Array.replicate (ops.size - n) false
  let f2 := Array.replicate (n + 1) true ++ Array.replicate (ops.size - (n + 1)) false
  Region.noSelect ops && decide (n < ops.size) && sinkB1 .any ops n && treeB .any ops n && lexT .any ops f1 n (n - 1) 1 ((Array.replicate ops.size false).setIfInBounds 0 true) && (decide (1 ≤ n) && Region.free .any ops (Array.replicate ops.size false) 0 && (Region.ready .any ops (Array.replicate ops.size false)).contains 0) &&
    decide (Region.ready .any ops f1 = [n]) && decide (f1.setIfInBounds n true = f2) && closedB .any ops f2 && lexT .any ops (Array.replicate ops.size true) ops.size (ops.size - (n + 1)) (n + 1) f2

theorem wp_region_after_tree1 {id : Nat} {Q : Exit → Act → World → Prop} {a : Act} {w : World} {l : List Oper} (n : Nat) (o o0 : Oper) (v0 : Value) (hm : P.follows .mixedOrders = true) (hB : treeOk1 l.toArray n = true) (ho : l[n]? = some o) (ho0 : l[0]? = some o0) (hy : Yields P l.toArray o0 v0 a) (hQ : ∀ c a w, Q (.panic c) (a.put o0.dst v0) w → Q (.panic c) a w)
    (h : wpQuiet P l.toArray (fun w' => ∃ x : Fut w, w' = x.at_) (fun a' => ∀ x : Fut w, ∀ Q2 : Exit → Act → World → Prop, (∀ a2 w2, wpQuiet P l.toArray (fun w' => w' = w2) (fun a3 => Q .normal a3 w2) (l.drop (n + 1)) a2 → Q2 .normal a2 w2) → wpList P l.toArray Q2 [o] a' x.at_) ((l.take n).drop 1) (a.put o0.dst v0)) :
    (Code.region id l.toArray true).wp P Q a w := by
  simp only [treeOk1, Bool.and_eq_true, decide_eq_true_eq] at hB
  obtain ⟨⟨⟨⟨⟨⟨⟨⟨⟨hsel, hn⟩, hs⟩, ht⟩, hlex⟩, ⟨⟨hn1, hfr⟩, hrd⟩⟩, hr1⟩, hf2⟩, hcl⟩, hlex2⟩ := hB
  generalize hf1 : Array.replicate n true ++ Array.replicate (l.toArray.size - n) false = f1 at *
  generalize hf3 : Array.replicate (n + 1) true ++ Array.replicate (l.toArray.size - (n + 1)) false = f2 at *
  clear hf1 hf3
  have hn' : n < l.length := by simpa using hn
  have htl : ((l.take n).drop 1).length = n - 1 := by simp; omega
  have hdl : (l.drop (n + 1)).length = l.toArray.size - (n + 1) := by simp
  have inv0 : HeadInv .any l.toArray n (Array.replicate l.toArray.size false) :=
    ⟨by simp, fun j oj _ hl => (by rw [getD_replicate_false] at hl; cases hl), fun t _ ht => getD_in (by simpa using ht) (getD_replicate_false _ _)⟩
  have hrd' : 0 ∈ Region.ready .any l.toArray (Array.replicate l.toArray.size false) := by simpa using hrd
  have hsz : 0 < (Array.replicate l.toArray.size false).size := by simp; omega
  have H := headQ_lexT (P := P) (md := .any) (C := fun w' => ∃ x : Fut w, w' = x.at_) (fin := f1) (Inv := fun li => HeadInv .any l.toArray n li ∧ li.getD 0 false = true) hsel (fun _ _ inv hj hjn => ⟨inv.1.set hj hjn, getD_set_true inv.2⟩) (fun listed inv i hi hu => tail_waits1 hs ht hn inv.1 inv.2 _ i rfl hi hu) ((l.take n).drop 1) 1 _ (a.put o0.dst v0) (fun j hj => by
    have hj' : 1 + j < n := by rw [htl] at hj; omega
    have hj2 : j + 1 < n := by omega
    simp [List.getElem?_drop, List.getElem?_take, hj2, Nat.add_comm 1 j]) (by rw [htl]; omega) ⟨inv0.set hrd' (by omega), by simp at hsz ⊢; simp [hsz]⟩ (by rw [htl]; exact hlex) h
  refine wp_region_any hm ?_
  rw [show l.toArray.size = (n - 1 + (l.toArray.size - n)) + 1 by omega]
  refine wpAny_take (by simpa using ho0) hsel (by rw [show (n - 1 + (l.toArray.size - n)) + 1 = l.toArray.size by omega]; exact hfr) (by rw [show (n - 1 + (l.toArray.size - n)) + 1 = l.toArray.size by omega]; exact hrd) hQ hy ?_
  rw [show (n - 1 + (l.toArray.size - n)) + 1 = l.toArray.size by omega]
  have := any_of_headQ (Q := Q) (g := l.toArray.size - n) (fun listed a' w' hw' hL => by
    obtain ⟨⟨rfl, _⟩, hL⟩ := hL
    obtain ⟨x, rfl⟩ := hw'
    rw [show l.toArray.size - n = (l.toArray.size - (n + 1)) + 1 by omega]
    refine ⟨fun h1 => (by rw [hr1] at h1; cases h1), fun i hi => ?_⟩
    rw [hr1] at hi
    obtain rfl : i = n := by simpa using hi
    refine wpOp_of_mix (o := o) (by simpa using ho) (hL x _ fun a2 w2 hq => ?_)
    show wpAny P .any l.toArray Q (l.toArray.size - (i + 1)) (listed.setIfInBounds i true) a2 w2
    rw [hf2]
    have H2 := headQ_lexT (P := P) (md := .any) (n := l.toArray.size) (C := fun w' => w' = w2) (fin := Array.replicate l.toArray.size true) (Inv := HeadInv .any l.toArray l.toArray.size) hsel (fun _ _ inv hj hjn => inv.set hj hjn) (fun listed inv i hi hu t ht hr => by
      obtain ⟨_, ot, hot, _⟩ := mem_ready.1 hr
      have := (Array.getElem?_eq_some_iff.1 hot).1
      omega) (l.drop (i + 1)) (i + 1) f2 a2 (fun j hj => by simp [List.getElem?_drop]) (by rw [hdl]; omega) (closedB_inv hcl) (by rw [hdl]; exact hlex2) hq
    have H3 := any_of_headQ (P := P) (md := .any) (ops := l.toArray) (n := l.toArray.size) (C := fun w' => w' = w2) (L := fun listed' a' => (listed' = Array.replicate l.toArray.size true ∧ ∀ j ∈ Region.ready .any l.toArray (Array.replicate l.toArray.size true), l.toArray.size ≤ j) ∧ Q .normal a' w2) (Q := Q) (g := 0) (fun listed a' w' hw' hL => by
      obtain ⟨⟨rfl, he⟩, hL⟩ := hL
      subst hw'
      refine ⟨List.eq_nil_iff_forall_not_mem.2 fun j hj => ?_, hL⟩
      have h1 := he j hj
      obtain ⟨_, ot, hot, _⟩ := mem_ready.1 hj
      have := (Array.getElem?_eq_some_iff.1 hot).1
      omega) _ _ _ w2 rfl H2
    rw [hdl] at H3
    exact H3) _ _ _ _ ⟨⟨_, (Below.refl _ _).drew⟩, rfl⟩ H
  rw [htl] at this
  exact this
def tailOk1 (ops : Array Oper) (n : Nat) : Bool :=
  let f1 := Array.replicate n true ++ Array.replicate (ops.size - n) false
  Region.noSelect ops && decide (n < ops.size) && sinkB1 .any ops n && treeB .any ops n && lexT .any ops f1 n (n - 1) 1 ((Array.replicate ops.size false).setIfInBounds 0 true) && (decide (1 ≤ n) && Region.free .any ops (Array.replicate ops.size false) 0 && (Region.ready .any ops (Array.replicate ops.size false)).contains 0) &&
    Region.seqB .any ops (ops.size - n) n f1

theorem wp_region_after_tail1 {id : Nat} {Q : Exit → Act → World → Prop} {a : Act} {w : World} {l : List Oper} (n : Nat) (o0 : Oper) (v0 : Value) (hm : P.follows .mixedOrders = true) (hB : tailOk1 l.toArray n = true) (ho0 : l[0]? = some o0) (hy : Yields P l.toArray o0 v0 a) (hQ : ∀ c a w, Q (.panic c) (a.put o0.dst v0) w → Q (.panic c) a w)
    (h : wpQuiet P l.toArray (fun w' => ∃ x : Fut w, w' = x.at_) (fun a' => ∀ x : Fut w, wpList P l.toArray Q (l.drop n) a' x.at_) ((l.take n).drop 1) (a.put o0.dst v0)) :
    (Code.region id l.toArray true).wp P Q a w := by
  simp only [tailOk1, Bool.and_eq_true, decide_eq_true_eq] at hB
  obtain ⟨⟨⟨⟨⟨⟨hsel, hn⟩, hs⟩, ht⟩, hlex⟩, ⟨⟨hn1, hfr⟩, hrd⟩⟩, hseq⟩ := hB
  generalize hf1 : Array.replicate n true ++ Array.replicate (l.toArray.size - n) false = f1 at *
  clear hf1
  have hn' : n < l.length := by simpa using hn
  have htl : ((l.take n).drop 1).length = n - 1 := by simp; omega
  have hdl : (l.drop n).length = l.toArray.size - n := by simp
  have inv0 : HeadInv .any l.toArray n (Array.replicate l.toArray.size false) :=
    ⟨by simp, fun j oj _ hl => (by rw [getD_replicate_false] at hl; cases hl), fun t _ ht => getD_in (by simpa using ht) (getD_replicate_false _ _)⟩
  have hrd' : 0 ∈ Region.ready .any l.toArray (Array.replicate l.toArray.size false) := by simpa using hrd
  have hsz : 0 < (Array.replicate l.toArray.size false).size := by simp; omega
  have H := headQ_lexT (P := P) (md := .any) (C := fun w' => ∃ x : Fut w, w' = x.at_) (fin := f1) (Inv := fun li => HeadInv .any l.toArray n li ∧ li.getD 0 false = true) hsel (fun _ _ inv hj hjn => ⟨inv.1.set hj hjn, getD_set_true inv.2⟩) (fun listed inv i hi hu => tail_waits1 hs ht hn inv.1 inv.2 _ i rfl hi hu) ((l.take n).drop 1) 1 _ (a.put o0.dst v0) (fun j hj => by
    have hj' : 1 + j < n := by rw [htl] at hj; omega
    have hj2 : j + 1 < n := by omega
    simp [List.getElem?_drop, List.getElem?_take, hj2, Nat.add_comm 1 j]) (by rw [htl]; omega) ⟨inv0.set hrd' (by omega), by simp at hsz ⊢; simp [hsz]⟩ (by rw [htl]; exact hlex) h
  refine wp_region_any hm ?_
  rw [show l.toArray.size = (n - 1 + (l.toArray.size - n)) + 1 by omega]
  refine wpAny_take (by simpa using ho0) hsel (by rw [show (n - 1 + (l.toArray.size - n)) + 1 = l.toArray.size by omega]; exact hfr) (by rw [show (n - 1 + (l.toArray.size - n)) + 1 = l.toArray.size by omega]; exact hrd) hQ hy ?_
  rw [show (n - 1 + (l.toArray.size - n)) + 1 = l.toArray.size by omega]
  have := any_of_headQ (Q := Q) (g := l.toArray.size - n) (fun listed a' w' hw' hL => by
    obtain ⟨⟨rfl, _⟩, hL⟩ := hL
    obtain ⟨x, rfl⟩ := hw'
    have h9 := wpAny_of_seq (md := .any) (Q' := Q) (l.drop n) n listed a' x.at_ (fun j => by simp [List.getElem?_drop]) (by rw [hdl]; exact hseq) (hL x)
    rwa [hdl] at h9) _ _ _ _ ⟨⟨_, (Below.refl _ _).drew⟩, rfl⟩ H
  rw [htl] at this
  exact this
end
end Go.Proofs.Ytopfpfpefljkkaa
