/- A region that draws its order: each operation leaves a value of which something is known that what other operations do leaves true. One obligation an operation, whatever the order; behind these a tail in one order. -/
import Derived.Test.YtemfecdpjegocaaDoorOwn
import Derived.StillTail
namespace Go.Proofs.YtemfecdpjegocaaDoor
open Go.RowKit
set_option linter.unusedVariables false

/-- The slots of the operations that have come up (D), filled. -/
def fillL (D : Nat → Bool) (vs : Nat → Value) : List Oper → Nat → Act → Act
  | [], _, a => a
  | o :: l, k, a => fillL D vs l (k + 1) (if D k then a.put o.dst (vs k) else a)
/-- All of them. -/
def fillT (vs : Nat → Value) : List Oper → Nat → Act → Act
  | [], _, a => a
  | o :: l, k, a => fillT vs l (k + 1) (a.put o.dst (vs k))
theorem fillL_all {D : Nat → Bool} {vs : Nat → Value} : ∀ (l : List Oper) (k : Nat) (a : Act), (∀ j, k ≤ j → j < k + l.length → D j = true) → fillL D vs l k a = fillT vs l k a
  | [], _, _, _ => rfl
  | o :: l, k, a, h => by
    rw [fillL, fillT, if_pos (h k (Nat.le_refl _) (by simp))]
    exact fillL_all l (k + 1) _ fun j h1 h2 => h j (by omega) (by simp; omega)
theorem fillL_none {D : Nat → Bool} {vs : Nat → Value} : ∀ (l : List Oper) (k : Nat) (a : Act), (∀ j, k ≤ j → j < k + l.length → D j = false) → fillL D vs l k a = a
  | [], _, _, _ => rfl
  | o :: l, k, a, h => by
    rw [fillL, h k (Nat.le_refl _) (by simp)]
    exact fillL_none l (k + 1) _ fun j h1 h2 => h j (by omega) (by simp; omega)
theorem fillL_congr {D D' : Nat → Bool} {vs vs' : Nat → Value} : ∀ (l : List Oper) (k : Nat) (a : Act), (∀ j, k ≤ j → D j = D' j ∧ vs j = vs' j) → fillL D vs l k a = fillL D' vs' l k a
  | [], _, _, _ => rfl
  | o :: l, k, a, h => by
    rw [fillL, fillL, (h k (Nat.le_refl _)).1, (h k (Nat.le_refl _)).2]
    exact fillL_congr l (k + 1) _ fun j h1 => h j (by omega)
/-- No two write one slot. -/
def distinctL : List Oper → Bool
  | [] => true
  | o :: l => (match o.dst with | some d => l.all fun p => p.dst != some d | none => true) && distinctL l
theorem fillL_comm {D : Nat → Bool} {vs : Nat → Value} {x : Option Tmp} {v : Value} : ∀ (l : List Oper) (k : Nat) (a : Act), (∀ d, x = some d → ∀ p ∈ l, p.dst ≠ some d) → fillL D vs l k (a.put x v) = (fillL D vs l k a).put x v
  | [], _, _, _ => rfl
  | o :: l, k, a, h => by
    rw [fillL, fillL]
    split
    · rw [← fillL_comm l (k + 1) _ (fun d hd p hp => h d hd p (by simp [hp])), Act.put_comm a v (vs k) (fun d hd => h d hd o (by simp))]
    · exact fillL_comm l (k + 1) _ fun d hd p hp => h d hd p (by simp [hp])
theorem distinctL_head {o : Oper} {l : List Oper} (h : distinctL (o :: l) = true) : (∀ d, o.dst = some d → ∀ p ∈ l, p.dst ≠ some d) ∧ distinctL l = true := by
  simp only [distinctL, Bool.and_eq_true] at h
  refine ⟨fun d hd p hp => ?_, h.2⟩
  have h1 := h.1
  rw [hd] at h1
  simpa using List.all_eq_true.1 h1 p hp
def setD (D : Nat → Bool) (i : Nat) : Nat → Bool := fun j => if j = i then true else D j
def setV (vs : Nat → Value) (i : Nat) (v : Value) : Nat → Value := fun j => if j = i then v else vs j
theorem fillL_put {D : Nat → Bool} {vs : Nat → Value} {i : Nat} {o : Oper} {v : Value} (hD : D i = false) : ∀ (l : List Oper) (k : Nat) (a : Act), distinctL l = true → k ≤ i → l[i - k]? = some o → (fillL D vs l k a).put o.dst v = fillL (setD D i) (setV vs i v) l k a
  | [], k, a, _, _, ho => by simp at ho
  | p :: l, k, a, hd, hk, ho => by
    obtain ⟨h1, h2⟩ := distinctL_head hd
    by_cases hik : i = k
    · subst hik
      simp at ho
      subst ho
      rw [fillL, fillL, hD]
      simp only [Bool.false_eq_true, if_false]
      rw [show setD D i i = true from if_pos rfl, show setV vs i v i = v from if_pos rfl]
      simp only [if_true]
      rw [fillL_comm l (i + 1) a h1, fillL_congr (D' := setD D i) (vs' := setV vs i v) l (i + 1) a fun j hj => ⟨(if_neg (by omega)).symm, (if_neg (by omega)).symm⟩]
    · have ho' : l[i - (k + 1)]? = some o := by
        rw [show i - k = (i - (k + 1)) + 1 by omega] at ho
        simpa using ho
      rw [fillL, fillL, show setD D i k = D k from if_neg (by omega), show setV vs i v k = vs k from if_neg (by omega)]
      exact fillL_put hD l (k + 1) _ h2 (by omega) ho'
/-- What a slot holds once what it is waited for has come up. -/
def slotL (vs : Nat → Value) : List Oper → Nat → Tmp → Value → Value
  | [], _, _, v => v
  | o :: l, k, t, v => if o.dst = some t then vs k else slotL vs l (k + 1) t v
theorem fillL_far {D : Nat → Bool} {vs : Nat → Value} {t : Tmp} : ∀ (l : List Oper) (k : Nat) (a : Act), (∀ p ∈ l, p.dst ≠ some t) → (fillL D vs l k a).tmps.getD t undef = a.tmps.getD t undef
  | [], _, _, _ => rfl
  | o :: l, k, a, h => by
    rw [fillL, fillL_far l (k + 1) _ fun p hp => h p (by simp [hp])]
    split
    · have := Act.eval_put (a := a) (dst := o.dst) (v := vs k) (x := .tmp t) fun d hd e => by cases e; exact h o (by simp) hd
      exact this
    · rfl
theorem fillL_at {D : Nat → Bool} {vs : Nat → Value} {t : Tmp} : ∀ (l : List Oper) (k : Nat) (a : Act), distinctL l = true → t < a.tmps.size → (∀ j o, l[j]? = some o → o.dst = some t → D (k + j) = true) →
    (fillL D vs l k a).tmps.getD t undef = slotL vs l k t (a.tmps.getD t undef)
  | [], _, _, _, _, _ => rfl
  | o :: l, k, a, hd, ht, h => by
    obtain ⟨h1, h2⟩ := distinctL_head hd
    rw [fillL, slotL]
    by_cases hot : o.dst = some t
    · rw [if_pos hot, fillL_far l (k + 1) _ fun p hp => h1 t hot p hp, show D k = true from h 0 o rfl hot]
      simp only [if_true]
      rw [hot]
      simp [Act.put, ht]
    · have hput : (if D k then a.put o.dst (vs k) else a).tmps.size = a.tmps.size := by
        split
        · unfold Act.put; split <;> simp
        · rfl
      have hget : (if D k then a.put o.dst (vs k) else a).tmps.getD t undef = a.tmps.getD t undef := by
        cases D k
        · rfl
        · exact Act.eval_put (a := a) (dst := o.dst) (v := vs k) (x := .tmp t) fun d hd' e => by cases e; exact hot hd'
      rw [if_neg hot, fillL_at l (k + 1) _ h2 (by rw [hput]; exact ht) fun j p hp hpt => by have := h (j + 1) p (by simpa using hp) hpt; rwa [show k + (j + 1) = k + 1 + j by omega] at this, hget]

/-- Does the operation look at what number j leaves? -/
def looksD (ops : Array Oper) (o : Oper) (j : Nat) : Bool := match (ops[j]?).bind (·.dst) with | some d => (o.looksAt ops).contains d | none => false
/-- What the order's test asks: each operation of the head waits for what it looks at; no two of them write one slot; the slots are there; what 'cons' gives to one operation no other looks at. -/
def ordB (ops : Array Oper) (n sz : Nat) (cons : Nat → Option Nat) : Bool :=
  Region.noSelect ops && distinctL (ops.toList.take n) && decide (n ≤ ops.size) && (List.range n).all fun i => match ops[i]? with
    | none => false
    | some o => (o.after.all fun e => !Region.binds .any e || decide (e.on < i)) && ((o.looksAt ops).all fun t => decide (t < sz)) && (List.range n).all fun j => !looksD ops o j || (Region.waitsFor .any ops i j && (match cons j with | none => true | some c => c == i))

section
variable {P : Program} {ops : Array Oper}

/-- What operation number i owes. -/
def ordOwes (P : Program) (ops : Array Oper) (n : Nat) (a0 : Act) (I : World → Prop) (R : Nat → Value → World → Prop) (Gr : Nat → World → World → Prop) (i : Nat) (o : Oper) : Prop :=
  ∀ (vs : Nat → Value) (a : Act) (w : World) (K : Act → World → Prop), I w → (∀ j, looksD ops o j = true → j < n → R j (vs j) w) →
    (∀ t ∈ o.looksAt ops, a.tmps.getD t undef = slotL vs (ops.toList.take n) 0 t (a0.tmps.getD t undef)) →
    (∀ v a' w', a' = a.put o.dst v → I w' → R i v w' → Gr i w w' → K a' w') →
    if Region.wanted o (yielded ops a.tmps) = true then o.wp P a w K (fun _ _ _ => False) else K (a.put o.dst undef) w

theorem Oper.wp_imp {o : Oper} {a : Act} {w : World} {K K' : Act → World → Prop} {Q Q' : Exit → Act → World → Prop} (h : ∀ a w, K a w → K' a w) (hQ : ∀ e a w, Q e a w → Q' e a w) (hL : LetsOut Q → LetsOut Q') (hh : o.wp P a w K Q) : o.wp P a w K' Q' := by
  unfold Oper.wp at *
  generalize (execOp a.eval o).run P w = r at *
  cases r with
  | ok n w' =>
    cases n <;> simp only [Oper.upon] at hh ⊢
    case value u => exact h _ _ hh
    case skip => exact h _ _ hh
    case enter f args =>
      refine hh.mono fun e w'' he => ?_
      cases e <;> simp only at he ⊢
      · exact h _ _ he
      · exact hQ _ _ _ he
      · exact hL he
    case defer d => exact h _ _ hh
    case row r args => exact hh.mono fun v w'' he => h _ _ he
  | halt x w' =>
    cases x <;> simp only [Oper.upon] at hh ⊢
    case panic v => exact hQ _ _ _ hh

theorem wp_region_ord {id : Nat} {Q : Exit → Act → World → Prop} {a0 : Act} {w : World} {l : List Oper} (n sz : Nat) (cons : Nat → Option Nat) (I : World → Prop) (R : Nat → Value → World → Prop) (Gr : Nat → World → World → Prop)
    (hm : P.follows .mixedOrders = true) (hsz : a0.tmps.size = sz) (hB : ordB l.toArray n sz cons = true)
    (hT : n = l.length ∨ (Region.sinkB .any l.toArray n && Region.chainB .any l.toArray n && decide (n < l.length)) = true)
    (hS : Region.seqB .any l.toArray (l.length - n) n (Array.replicate n true ++ Array.replicate (l.length - n) false) = true)
    (hI : I { w with drawn := w.drawn + 1 }) (hst : ∀ i j v u u', i < n → j < n → i ≠ j → Region.waitsFor .any l.toArray j i = false → cons j ≠ some i → (∀ c, cons j = some c → Region.waitsFor .any l.toArray i c = false) → Gr i u u' → R j v u → R j v u')
    (hop : ∀ i o, i < n → l[i]? = some o → ordOwes P l.toArray n a0 I R Gr i o)
    (hQ : ∀ (vs : Nat → Value) (w' : World), I w' → (∀ j, j < n → cons j = none → R j (vs j) w') → wpList P l.toArray Q (l.drop n) (fillT vs (l.take n) 0 a0) w') :
    (Code.region id l.toArray true).wp P Q a0 w := by
  simp only [ordB, Bool.and_eq_true, decide_eq_true_eq] at hB
  obtain ⟨⟨⟨hsel, hdis⟩, hnl⟩, hall⟩ := hB
  have hnl' : n ≤ l.length := by simpa using hnl
  have hdis' : distinctL (l.take n) = true := by simpa using hdis
  refine wp_region_any hm ?_
  have key : ∀ (f : Nat) (listed : Array Bool) (a : Act) (w : World) (vs : Nat → Value), HeadInv .any l.toArray n listed → ((List.range n).filter fun j => !listed.getD j false).length = f →
      a = fillL (fun j => listed.getD j false) vs (l.take n) 0 a0 → I w → (∀ j, j < n → listed.getD j false = true → (∀ c, cons j = some c → listed.getD c false = false) → R j (vs j) w) → wpAny P .any l.toArray Q (f + (l.length - n)) listed a w := by
    intro f
    induction f with
    | zero =>
      intro listed a w vs inv hf ha hIw hR
      have hdone : ∀ j, j < n → listed.getD j false = true := fun j hj => by
        have h0 := List.eq_nil_of_length_eq_zero hf
        rw [List.filter_eq_nil_iff] at h0
        have := h0 j (List.mem_range.2 hj)
        simpa using this
      have hlist : listed = Array.replicate n true ++ Array.replicate (l.length - n) false := by
        have hs1 := inv.size
        simp at hs1
        apply Array.ext
        · simp; omega
        · intro j h1 h2
          by_cases hj : j < n
          · have := hdone j hj
            rw [Array.getElem_append_left (by simpa using hj)]
            simpa [h1] using this
          · have := inv.tail j (by omega) (by simp; omega)
            rw [Array.getElem_append_right (by simp; omega)]
            simpa [h1] using this
      have hfill : a = fillT vs (l.take n) 0 a0 := by
        rw [ha]
        exact fillL_all _ _ _ fun j _ hj => hdone j (by simp at hj; omega)
      rw [Nat.zero_add]
      have := wpAny_of_seq (P := P) (md := .any) (ops := l.toArray) (Q' := Q) (l.drop n) n listed a w (fun j => by simp [List.getElem?_drop]) (by rw [List.length_drop, hlist]; exact hS) (by
        rw [hfill]; exact hQ vs w hIw fun j hj hcj => hR j hj (hdone j hj) (fun c hc => by rw [hcj] at hc; cases hc))
      rwa [List.length_drop] at this
    | succ f ih =>
      intro listed a w vs inv hf ha hIw hR
      have hex : ∃ j, j < n ∧ listed.getD j false = false := by
        have h0 : (List.range n).filter (fun j => !listed.getD j false) ≠ [] := by intro h; rw [h] at hf; simp at hf
        obtain ⟨j, hj⟩ := List.exists_mem_of_ne_nil _ h0
        rw [List.mem_filter, List.mem_range] at hj
        exact ⟨j, hj.1, by simpa using hj.2⟩
      have hin : ∀ j, j < n → j < listed.size := fun j hj => by rw [inv.size]; simp; omega
      rw [show f + 1 + (l.length - n) = (f + (l.length - n)) + 1 by omega]
      have hready : Region.ready .any l.toArray listed ≠ [] := by
        -- the first that has not come up
        have : ∃ j, (j < n ∧ listed.getD j false = false) ∧ ∀ k, k < j → ¬ (k < n ∧ listed.getD k false = false) := by
          obtain ⟨j, hj⟩ := hex
          induction j using Nat.strongRecOn with
          | _ j ihj =>
            rcases Classical.em (∃ k, k < j ∧ (k < n ∧ listed.getD k false = false)) with ⟨k, hk, hk2⟩ | h
            · exact ihj k hk hk2
            · exact ⟨j, hj, fun k hk hk2 => h ⟨k, hk, hk2⟩⟩
        obtain ⟨j, ⟨hjn, hjf⟩, hmin⟩ := this
        have hjl : j < l.length := by omega
        have hoj : l.toArray[j]? = some l[j] := by simp [hjl]
        have h1 := List.all_eq_true.1 hall j (List.mem_range.2 hjn)
        rw [hoj] at h1
        simp only [Bool.and_eq_true] at h1
        intro h0
        have hm : j ∈ Region.ready .any l.toArray listed := by
          rw [mem_ready]
          refine ⟨getD_in (hin j hjn) hjf, l[j], hoj, fun e he hb => ?_⟩
          have h2 := Array.all_eq_true_iff_forall_mem.1 h1.1.1 e he
          rw [hb] at h2
          simp at h2
          cases hl : listed.getD e.on false with
          | true => rfl
          | false => exact absurd ⟨by omega, hl⟩ (hmin e.on h2)
        rw [h0] at hm
        cases hm
      refine ⟨fun h0 => absurd h0 hready, fun i hi => ?_⟩
      have hi' := mem_ready.1 hi
      obtain ⟨hun, oi, hoi, hdeps⟩ := hi'
      have hil : i < l.length := by have := (Array.getElem?_eq_some_iff.1 hoi).1; simpa using this
      have hin' : i < n := by
        rcases Nat.lt_or_ge i n with h | h
        · exact h
        · rcases hT with hT | hT
          · omega
          · simp only [Bool.and_eq_true, decide_eq_true_eq] at hT
            obtain ⟨⟨hs, hc⟩, hn⟩ := hT
            obtain ⟨j, hjn, hjf⟩ := hex
            exact absurd hi (tail_waits hs hc (by simpa using hn) inv _ j rfl hjn (getD_in (hin j hjn) hjf) i h)
      have hoi2 : l[i]? = some oi := by simpa using hoi
      have h1 := List.all_eq_true.1 hall i (List.mem_range.2 hin')
      rw [hoi] at h1
      simp only [Bool.and_eq_true] at h1
      obtain ⟨⟨_, hslots⟩, hlooks⟩ := h1
      have hdone : ∀ j, j < n → looksD l.toArray oi j = true → listed.getD j false = true := fun j hj hlk => by
        have h2 := List.all_eq_true.1 hlooks j (List.mem_range.2 hj)
        rw [hlk] at h2
        simp only [Bool.not_true, Bool.false_or, Bool.and_eq_true] at h2
        obtain ⟨o', ho', e, he, hb, hon⟩ := Region.waitsFor_spec h2.1
        have : o' = oi := Option.some.inj (ho'.symm.trans hoi)
        subst this
        rw [← hon]; exact hdeps e he hb
      have hcons : ∀ j, j < n → looksD l.toArray oi j = true → ∀ c, cons j = some c → listed.getD c false = false := fun j hj hlk c hc => by
        have h2 := List.all_eq_true.1 hlooks j (List.mem_range.2 hj)
        rw [hlk, hc] at h2
        simp only [Bool.not_true, Bool.false_or, Bool.and_eq_true, beq_iff_eq] at h2
        rw [h2.2]; exact getD_both hun
      have hslot : ∀ t ∈ oi.looksAt l.toArray, a.tmps.getD t undef = slotL vs (l.toArray.toList.take n) 0 t (a0.tmps.getD t undef) := fun t ht => by
        have h2 := List.all_eq_true.1 hslots t ht
        rw [ha]
        exact fillL_at (l.take n) 0 a0 hdis' (by rw [hsz]; simpa using h2) fun j o hj hdst => by
          rw [Nat.zero_add]
          have hjn : j < n := by have := (List.getElem?_eq_some_iff.1 hj).1; simp at this; omega
          have hoj : l.toArray[j]? = some o := by rw [List.getElem?_take, if_pos hjn] at hj; simpa using hj
          refine hdone j hjn ?_
          unfold looksD
          rw [hoj]
          show (match o.dst with | some d => (oi.looksAt l.toArray).contains d | none => false) = true
          rw [hdst]
          simpa using ht
      have hstep := hop i oi hin' hoi2 vs a w (wpAny P .any l.toArray Q (f + (l.length - n)) (listed.setIfInBounds i true)) hIw (fun j hlk hj => hR j hj (hdone j hj hlk) (hcons j hj hlk)) hslot (fun v a' w' ha' hI' hR' hG => by
        refine ih (listed.setIfInBounds i true) a' w' (setV vs i v) (inv.set hi hin') ?_ ?_ hI' ?_
        · have hsplit : ((List.range n).filter fun j => !listed.getD j false).length = ((List.range n).filter fun j => !(listed.setIfInBounds i true).getD j false).length + 1 := by
            have hset : ∀ j, (listed.setIfInBounds i true).getD j false = if j = i then true else listed.getD j false := fun j => by
              by_cases h : j = i
              · subst h; simp [hin j hin']
              · rw [if_neg h, getD_set_ne false (Ne.symm h)]
            have hfun : (fun j => !(listed.setIfInBounds i true).getD j false) = fun j => !(if j = i then true else listed.getD j false) := funext fun j => by rw [hset]
            rw [hfun]
            have gen : ∀ m, i < m → ((List.range m).filter fun j => !listed.getD j false).length = ((List.range m).filter fun j => !(if j = i then true else listed.getD j false)).length + 1 := by
              intro m
              induction m with
              | zero => intro h; omega
              | succ m ihm =>
                intro him
                rw [List.range_succ, List.filter_append, List.filter_append, List.length_append, List.length_append]
                by_cases h : i = m
                · subst h
                  have e1 : (List.range i).filter (fun j => !listed.getD j false) = (List.range i).filter (fun j => !(if j = i then true else listed.getD j false)) := by
                    refine List.filter_congr fun j hj => ?_
                    have := List.mem_range.1 hj
                    rw [if_neg (by omega)]
                  rw [e1]
                  have : listed.getD i false = false := getD_both hun
                  simp only [List.filter_cons, List.filter_nil, this, if_true]
                  simp
                · rw [ihm (by omega)]
                  simp only [List.filter_cons, List.filter_nil, if_neg (Ne.symm h)]
                  omega
            exact gen n hin'
          omega
        · rw [ha', ha]
          have h3 := fillL_put (D := fun j => listed.getD j false) (vs := vs) (i := i) (o := oi) (v := v) (getD_both hun) (l.take n) 0 a0 hdis' (Nat.zero_le _) (by rw [Nat.sub_zero, List.getElem?_take, if_pos hin']; exact hoi2)
          rw [h3]
          refine fillL_congr _ _ _ fun j _ => ⟨?_, rfl⟩
          unfold setD
          by_cases h : j = i
          · subst h; simp [hin j hin']
          · rw [if_neg h, getD_set_ne false (Ne.symm h)]
        · intro j hj hlj hcj
          by_cases h : j = i
          · subst h
            rw [show setV vs j v j = v from if_pos rfl]; exact hR'
          · rw [show setV vs i v j = vs j from if_neg h]
            rw [getD_set_ne false (Ne.symm h)] at hlj
            have hne : cons j ≠ some i := fun hc => by
              have := hcj i hc
              simp [hin i hin'] at this
            have hw1 : Region.waitsFor .any l.toArray j i = false := by
              cases hw : Region.waitsFor .any l.toArray j i with
              | false => rfl
              | true =>
                obtain ⟨oj, hoj, e, he, hb, hon⟩ := Region.waitsFor_spec hw
                have := inv.closed j oj hoj hlj e he hb
                rw [hon, getD_both hun] at this
                cases this
            have hw2 : ∀ c, cons j = some c → Region.waitsFor .any l.toArray i c = false := fun c hc => by
              cases hw : Region.waitsFor .any l.toArray i c with
              | false => rfl
              | true =>
                obtain ⟨o', ho', e, he, hb, hon⟩ := Region.waitsFor_spec hw
                have : o' = oi := Option.some.inj (ho'.symm.trans hoi)
                subst this
                have h5 := hdeps e he hb
                have h6 := hcj c hc
                rw [getD_set_ne false (fun e => hne (by rw [hc, e]))] at h6
                rw [hon, h6] at h5
                cases h5
            refine hst i j _ _ _ hin' hj (Ne.symm h) hw1 hne hw2 hG (hR j hj hlj fun c hc => ?_)
            have := hcj c hc
            rwa [getD_set_ne false (fun e => hne (by rw [hc, e]))] at this)
      unfold wpOp
      rw [hoi]
      show if Region.wanted oi (yielded l.toArray a.tmps) = true then _ else _
      split
      · rename_i hw
        rw [if_pos hw] at hstep
        exact .inl (Oper.wp_imp (fun _ _ h => h) (fun _ _ _ h => h.elim) (fun h => by obtain ⟨_, _, h⟩ := h; exact h.elim) hstep)
      · rename_i hw
        rw [if_neg hw] at hstep
        exact hstep
  have hinv : HeadInv .any l.toArray n (Array.replicate l.toArray.size false) :=
    ⟨by simp, fun j oj _ hl => (by rw [getD_replicate_false] at hl; cases hl), fun t _ ht => getD_in (by simpa using ht) (getD_replicate_false _ _)⟩
  have := key n (Array.replicate l.toArray.size false) a0 { w with drawn := w.drawn + 1 } (fun _ => undef) hinv (by
    rw [List.filter_eq_self.2 (fun j _ => by rw [getD_replicate_false]; rfl), List.length_range]) (by
    rw [fillL_none _ _ _ fun j _ _ => getD_replicate_false _ _]) hI (fun j _ h _ => by rw [getD_replicate_false] at h; cases h)
  rw [show n + (l.length - n) = l.length by omega] at this
  simpa using this
end
end Go.Proofs.YtemfecdpjegocaaDoor
