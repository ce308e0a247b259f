/- Merged: BuildP, BuildM, BuildAdd, BuildStep, Build, WalkPut. -/
import Derived.Test.YtopfpfpefljkkaaWalkA
import Derived.Test.YtopfpfpefljkkaaRlpNst2
import Derived.Test.YtopfpfpefljkkaaBar
import Derived.Test.YtopfpfpefljkkaaRlpGets
import Derived.Test.YtopfpfpefljkkaaRlpLaw
import Derived.Deep.RegionHeld3

/- walk.Build without the program: its stack of open lists; the document's parse. -/
namespace Go.Proofs.Ytopfpfpefljkkaa
open Go.RowKit
set_option linter.unusedVariables false
set_option linter.unusedSimpArgs false

/-- May one more item begin? -/
def beginB (st : List (List (Rose IL))) (left : Nat) : Bool := decide (left ≠ 0) && decide (st.length ≤ 16) && !(decide (st.length = 1) && decide (0 < (st.headD []).length))
/-- A token's step: the lists that are open, the inmost first; how many items are left. -/
def stepB (t : Tk) : List (List (Rose IL)) → Nat → Option (List (List (Rose IL)) × Nat)
  | [], _ => none
  | r :: rs, left =>
    if t.kind ≠ 3 ∧ t.text.size ≠ 0 then none
    else if t.kind = 3 then (if beginB (r :: rs) left then some ((r ++ [.node ⟨t.text.data.toList, false⟩ []]) :: rs, left - 1) else none)
    else if t.kind = 1 then (if beginB (r :: rs) left then some ([] :: r :: rs, left - 1) else none)
    else if t.kind = 2 then (match rs with | [] => none | r2 :: rs2 => some ((r2 ++ [.node ⟨[], true⟩ r]) :: rs2, left))
    else none
theorem stepB_cons (t : Tk) (r : List (Rose IL)) (rs : List (List (Rose IL))) (left : Nat) : stepB t (r :: rs) left =
    if t.kind ≠ 3 ∧ t.text.size ≠ 0 then none
    else if t.kind = 3 then (if beginB (r :: rs) left then some ((r ++ [.node ⟨t.text.data.toList, false⟩ []]) :: rs, left - 1) else none)
    else if t.kind = 1 then (if beginB (r :: rs) left then some ([] :: r :: rs, left - 1) else none)
    else if t.kind = 2 then (match rs with | [] => none | r2 :: rs2 => some ((r2 ++ [.node ⟨[], true⟩ r]) :: rs2, left))
    else none := rfl
theorem stepB_open (r : List (Rose IL)) (rs : List (List (Rose IL))) (left : Nat) : stepB tOpen (r :: rs) left = if beginB (r :: rs) left then some ([] :: r :: rs, left - 1) else none := by
  rw [stepB_cons, if_neg (show ¬(tOpen.kind ≠ 3 ∧ tOpen.text.size ≠ 0) from fun h => h.2 rfl), if_neg (show ¬ tOpen.kind = 3 by decide), if_pos (show tOpen.kind = 1 from rfl)]
theorem stepB_shut (r : List (Rose IL)) (rs : List (List (Rose IL))) (left : Nat) : stepB tShut (r :: rs) left = match rs with | [] => none | r2 :: rs2 => some ((r2 ++ [.node ⟨[], true⟩ r]) :: rs2, left) := by
  rw [stepB_cons, if_neg (show ¬(tShut.kind ≠ 3 ∧ tShut.text.size ≠ 0) from fun h => h.2 rfl), if_neg (show ¬ tShut.kind = 3 by decide), if_neg (show ¬ tShut.kind = 1 by decide), if_pos (show tShut.kind = 2 from rfl)]
def runB : List Tk → List (List (Rose IL)) → Nat → Option (List (List (Rose IL)) × Nat)
  | [], st, left => some (st, left)
  | t :: T, st, left => match stepB t st left with
    | none => none
    | some y => runB T y.1 y.2
def buildB (T : List Tk) : Option (Rose IL) := match runB T [[]] 1024 with
  | some ([[x]], _) => some x
  | _ => none

theorem bytes_nil {T : ByteArray} (h : T.size = 0) : T = ⟨#[]⟩ := by
  obtain ⟨⟨l⟩⟩ := T
  have : l = [] := List.length_eq_zero_iff.1 h
  subst this
  rfl
theorem txt_of (T : ByteArray) (l : Bool) : txt ⟨T.data.toList, l⟩ = T := by
  obtain ⟨⟨l⟩⟩ := T
  rfl
theorem tk_word {t : Tk} (h : t.kind = 3) : tWord ⟨t.text.data.toList, false⟩ = t := by
  obtain ⟨k, x⟩ := t
  simp only at h
  subst h
  unfold tWord
  rw [txt_of]
theorem tk_open {t : Tk} (h : t.kind = 1) (h2 : t.text.size = 0) : t = tOpen := by
  obtain ⟨k, x⟩ := t
  simp only at h h2
  subst h
  rw [bytes_nil h2]
  rfl
theorem tk_shut {t : Tk} (h : t.kind = 2) (h2 : t.text.size = 0) : t = tShut := by
  obtain ⟨k, x⟩ := t
  simp only at h h2
  subst h
  rw [bytes_nil h2]
  rfl

def okS : List (List (Rose IL)) → Prop
  | [] => True
  | r :: rs => Rose.allL iright r = true ∧ Rose.deepL r + rs.length ≤ 16 ∧ okS rs
def cntS : List (List (Rose IL)) → Nat
  | [] => 0
  | [r] => Rose.countL r
  | r :: rs => Rose.countL r + 1 + cntS rs
def openT : List (List (Rose IL)) → List Tk
  | [] => []
  | [r] => toksL r
  | r :: rs => openT rs ++ tOpen :: toksL r
theorem cntS_cons (r r2 : List (Rose IL)) (rs : List (List (Rose IL))) : cntS (r :: r2 :: rs) = Rose.countL r + 1 + cntS (r2 :: rs) := rfl
theorem openT_cons (r r2 : List (Rose IL)) (rs : List (List (Rose IL))) : openT (r :: r2 :: rs) = openT (r2 :: rs) ++ tOpen :: toksL r := rfl
theorem cntS_snoc (r : List (Rose IL)) (x : Rose IL) (rs : List (List (Rose IL))) : cntS ((r ++ [x]) :: rs) = cntS (r :: rs) + x.count := by
  have h1 : Rose.countL (r ++ [x]) = Rose.countL r + x.count := by rw [Rose.countL_append]; simp [Rose.countL]
  cases rs with
  | nil => exact h1
  | cons r2 rs => rw [cntS_cons, cntS_cons, h1]; omega
theorem openT_snoc (r : List (Rose IL)) (x : Rose IL) (rs : List (List (Rose IL))) : openT ((r ++ [x]) :: rs) = openT (r :: rs) ++ toks x := by
  have h1 : toksL (r ++ [x]) = toksL r ++ toks x := by rw [toksL_append]; simp [toksL]
  cases rs with
  | nil => exact h1
  | cons r2 rs => rw [openT_cons, openT_cons, h1]; simp
theorem okS_snoc {r : List (Rose IL)} {x : Rose IL} {rs : List (List (Rose IL))} (h : okS (r :: rs)) (hx : x.all iright = true) (hd : x.deep + rs.length ≤ 16) : okS ((r ++ [x]) :: rs) := by
  obtain ⟨h1, h2, h3⟩ := h
  refine ⟨?_, ?_, h3⟩
  · rw [Rose.allL_append, h1]; simp [Rose.allL, hx]
  · rw [Rose.deepL_append]; simp only [Rose.deepL]; omega
theorem begin_spec {r : List (Rose IL)} {rs : List (List (Rose IL))} {left : Nat} (h : beginB (r :: rs) left = true) : 0 < left ∧ rs.length + 1 ≤ 16 := by
  simp only [beginB, Bool.and_eq_true, decide_eq_true_eq, List.length_cons] at h
  omega

theorem step_sound {t : Tk} {st st' : List (List (Rose IL))} {left left' : Nat} (h : stepB t st left = some (st', left')) (ho : okS st) :
    st' ≠ [] ∧ okS st' ∧ openT st' = openT st ++ [t] ∧ cntS st' + left' = cntS st + left := by
  cases st with
  | nil => simp [stepB] at h
  | cons r rs =>
    simp only [stepB] at h
    split at h
    · cases h
    rename_i hk
    split at h
    · rename_i h3
      split at h
      · rename_i hb
        obtain ⟨hb1, hb2⟩ := begin_spec hb
        simp only [Option.some.injEq, Prod.mk.injEq] at h
        obtain ⟨rfl, rfl⟩ := h
        refine ⟨by simp, okS_snoc ho (by simp [Rose.all, iright, irightK, Rose.allL]) (by simp only [Rose.deep, Rose.deepL]; omega), ?_, ?_⟩
        · rw [openT_snoc, toks_word rfl]
          simp only [Rose.lab_node, tk_word h3]
        · rw [cntS_snoc]; simp only [Rose.count, Rose.countL]; omega
      · cases h
    · rename_i h3
      have hz : t.text.size = 0 := by
        rcases Nat.eq_zero_or_pos t.text.size with h0 | h0
        · exact h0
        · exact absurd ⟨h3, by omega⟩ hk
      split at h
      · rename_i h1
        split at h
        · rename_i hb
          obtain ⟨hb1, hb2⟩ := begin_spec hb
          simp only [Option.some.injEq, Prod.mk.injEq] at h
          obtain ⟨rfl, rfl⟩ := h
          refine ⟨by simp, ⟨by simp [Rose.allL], by simp only [Rose.deepL, List.length_cons]; omega, ho⟩, ?_, ?_⟩
          · rw [openT_cons, toksL_nil, ← tk_open h1 hz]
          · rw [cntS_cons]; simp only [Rose.countL]; omega
        · cases h
      · split at h
        · rename_i h2
          cases rs with
          | nil => simp at h
          | cons r2 rs2 =>
            simp only [Option.some.injEq, Prod.mk.injEq] at h
            obtain ⟨rfl, rfl⟩ := h
            obtain ⟨o1, o2, o3⟩ := ho
            simp only [List.length_cons] at o2
            refine ⟨by simp, okS_snoc o3 ?_ ?_, ?_, ?_⟩
            · simp [Rose.all, iright, irightK, o1]
            · simp only [Rose.deep]; omega
            · rw [openT_snoc, openT_cons, toks_list rfl]
              simp only [Rose.sub_node, tk_shut h2 hz]
              simp
            · rw [cntS_snoc, cntS_cons]; simp only [Rose.count]; omega
        · cases h
theorem run_sound : ∀ {T : List Tk} {st st' : List (List (Rose IL))} {left left' : Nat}, runB T st left = some (st', left') → okS st → okS st' ∧ openT st' = openT st ++ T ∧ cntS st' + left' = cntS st + left
  | [], st, st', left, left', h, ho => by
    simp only [runB, Option.some.injEq, Prod.mk.injEq] at h
    obtain ⟨rfl, rfl⟩ := h
    exact ⟨ho, by simp, rfl⟩
  | t :: T, st, st', left, left', h, ho => by
    simp only [runB] at h
    cases hs : stepB t st left with
    | none => rw [hs] at h; cases h
    | some y =>
      rw [hs] at h
      obtain ⟨st1, left1⟩ := y
      obtain ⟨_, h1, h2, h3⟩ := step_sound hs ho
      dsimp only at h
      obtain ⟨g1, g2, g3⟩ := run_sound h h1
      exact ⟨g1, by rw [g2, h2]; simp, by omega⟩
/-- What is built is what the tokens are of. -/
theorem build_sound {T : List Tk} {x : Rose IL} (h : buildB T = some x) : T = toks x ∧ mayI x = true := by
  unfold buildB at h
  cases hr : runB T [[]] 1024 with
  | none => rw [hr] at h; simp at h
  | some y =>
    rw [hr] at h
    obtain ⟨st, left⟩ := y
    split at h
    · rename_i x' left' he
      cases h
      simp only [Option.some.injEq, Prod.mk.injEq] at he
      obtain ⟨rfl, rfl⟩ := he
      obtain ⟨h1, h2, h3⟩ := run_sound hr (by simp [okS, Rose.allL, Rose.deepL])
      refine ⟨?_, ?_⟩
      · have : openT [[x]] = toks x := by simp [openT, toksL]
        rw [← this, h2]; simp [openT, toksL]
      · obtain ⟨a1, a2, _⟩ := h1
        simp only [Rose.allL, Bool.and_true, Rose.deepL, List.length_nil] at a1 a2
        simp only [cntS, Rose.countL] at h3
        unfold mayI
        simp only [Bool.and_eq_true, decide_eq_true_eq]
        exact ⟨⟨a1, by omega⟩, by omega⟩
    · cases h

theorem runL {s : List (Rose IL)} (ih : ∀ y, y ∈ s → ∀ (r : List (Rose IL)) (rs : List (List (Rose IL))) (left : Nat) (rest : List Tk), y.all iright = true → rs.length + y.deep ≤ 16 → y.count ≤ left → (rs = [] → r = []) →
    runB (toks y ++ rest) (r :: rs) left = runB rest ((r ++ [y]) :: rs) (left - y.count)) :
    ∀ (r r2 : List (Rose IL)) (rs : List (List (Rose IL))) (left : Nat) (rest : List Tk), Rose.allL iright s = true → rs.length + 1 + Rose.deepL s ≤ 16 → Rose.countL s ≤ left →
      runB (toksL s ++ rest) (r :: r2 :: rs) left = runB rest ((r ++ s) :: r2 :: rs) (left - Rose.countL s) := by
  induction s with
  | nil => intro r r2 rs left rest _ _ _; simp [toksL, Rose.countL]
  | cons y s ihs =>
    intro r r2 rs left rest ha hd hc
    simp only [Rose.allL, Bool.and_eq_true, Rose.deepL, Rose.countL] at ha hd hc
    rw [toksL_cons, List.append_assoc, ih y List.mem_cons_self r (r2 :: rs) left _ ha.1 (by simp only [List.length_cons]; omega) (by omega) (by simp),
      ihs (fun z hz => ih z (List.mem_cons_of_mem _ hz)) _ _ _ _ _ ha.2 (by omega) (by omega)]
    simp only [Rose.countL, List.append_assoc, List.singleton_append]
    congr 1
    omega
theorem run_toks (y : Rose IL) : ∀ (r : List (Rose IL)) (rs : List (List (Rose IL))) (left : Nat) (rest : List Tk), y.all iright = true → rs.length + y.deep ≤ 16 → y.count ≤ left → (rs = [] → r = []) →
    runB (toks y ++ rest) (r :: rs) left = runB rest ((r ++ [y]) :: rs) (left - y.count) := by
  refine Rose.ind (P := fun y => ∀ (r : List (Rose IL)) (rs : List (List (Rose IL))) (left : Nat) (rest : List Tk), y.all iright = true → rs.length + y.deep ≤ 16 → y.count ≤ left → (rs = [] → r = []) →
    runB (toks y ++ rest) (r :: rs) left = runB rest ((r ++ [y]) :: rs) (left - y.count)) (fun a s ih => ?_) y
  intro r rs left rest ha hd hc hr
  simp only [Rose.all, Bool.and_eq_true, iright, irightK, Rose.deep, Rose.count] at ha hd hc
  have hbegin : beginB (r :: rs) left = true := by
    simp only [beginB, Bool.and_eq_true, decide_eq_true_eq, List.length_cons, Bool.not_eq_true', Bool.and_eq_false_iff, decide_eq_false_iff_not, List.headD_cons]
    refine ⟨⟨by omega, by omega⟩, ?_⟩
    by_cases e : rs = []
    · right; rw [hr e]; simp
    · left; have := List.length_pos_iff.2 e; omega
  obtain ⟨tx, li⟩ := a
  cases li with
  | false =>
    simp only [Bool.false_eq_true, if_false, decide_eq_true_eq, List.length_eq_zero_iff] at ha
    obtain ⟨rfl, _⟩ := ha
    rw [toks_word rfl]
    simp only [List.cons_append, List.nil_append, runB, stepB, tWord, Rose.lab_node, ne_eq, not_true_eq_false, false_and, if_false, if_true, hbegin]
    simp only [Rose.countL, Rose.count]
    rfl
  | true =>
    simp only [if_true, List.isEmpty_iff] at ha
    obtain ⟨rfl, hs⟩ := ha
    rw [toks_list rfl]
    simp only [Rose.sub_node, List.cons_append, List.append_assoc, List.nil_append]
    have e1 : stepB tOpen (r :: rs) left = some ([] :: r :: rs, left - 1) := by
      simp only [stepB, tOpen, hbegin]
      simp
      rfl
    rw [runB, e1]
    dsimp only
    rw [runL ih [] r rs (left - 1) _ hs (by omega) (by omega)]
    have e2 : ∀ l, stepB tShut (([] ++ s) :: r :: rs) l = some ((r ++ [.node ⟨[], true⟩ s]) :: rs, l) := fun l => by
      simp only [stepB, tShut]
      simp
      rfl
    rw [runB, e2]
    simp only [Rose.count]
    congr 1
    omega
/-- The tokens of an item that may be are built to it. -/
theorem build_toks {y : Rose IL} (h : mayI y = true) : buildB (toks y) = some y := by
  unfold mayI at h
  simp only [Bool.and_eq_true, decide_eq_true_eq] at h
  obtain ⟨⟨h1, h2⟩, h3⟩ := h
  unfold buildB
  have := run_toks y [] [] 1024 [] h1 (by simpa using h2) h3 (fun _ => rfl)
  rw [List.append_nil] at this
  rw [this]
  simp [runB]

/-! ### The document's parse -/
def loopP (p : List Tk → Option (Rose IL × List Tk)) : Nat → List Tk → List (Rose IL) → Option (List (Rose IL) × List Tk)
  | 0, _, _ => none
  | m + 1, l, acc => match l with
    | [] => some (acc, [])
    | t :: r => if t.kind = 2 then some (acc, t :: r) else match p (t :: r) with
      | none => none
      | some y => loopP p m y.2 (acc ++ [y.1])
def parseK : Nat → List Tk → Option (Rose IL × List Tk)
  | 0, _ => none
  | _ + 1, [] => none
  | k + 1, t :: r =>
    if t.kind = 3 then some (.node ⟨t.text.data.toList, false⟩ [], r)
    else if t.kind = 1 ∧ t.text.size = 0 then match loopP (parseK k) (r.length + 1) r [] with
      | some (s, t2 :: r2) => if t2.text.size = 0 then some (.node ⟨[], true⟩ s, r2) else none
      | _ => none
    else none
def docB (T : List Tk) : Option (Rose IL) := match parseK 16 T with
  | some (y, []) => some y
  | _ => none

theorem loopP_sound {p : List Tk → Option (Rose IL × List Tk)} {k : Nat} (hp : ∀ l y l', p l = some (y, l') → l = toks y ++ l' ∧ y.all iright = true ∧ y.deep ≤ k) :
    ∀ (m : Nat) (l : List Tk) (acc s : List (Rose IL)) (l' : List Tk), loopP p m l acc = some (s, l') → ∃ s', s = acc ++ s' ∧ l = toksL s' ++ l' ∧ Rose.allL iright s' = true ∧ Rose.deepL s' ≤ k ∧ (∀ t r, l' = t :: r → t.kind = 2)
  | 0, l, acc, s, l', h => by simp [loopP] at h
  | m + 1, [], acc, s, l', h => by
    simp only [loopP, Option.some.injEq, Prod.mk.injEq] at h
    obtain ⟨rfl, rfl⟩ := h
    exact ⟨[], by simp, by simp [toksL], rfl, by simp [Rose.deepL], fun t r e => by cases e⟩
  | m + 1, t :: r, acc, s, l', h => by
    simp only [loopP] at h
    split at h
    · rename_i h2
      simp only [Option.some.injEq, Prod.mk.injEq] at h
      obtain ⟨rfl, rfl⟩ := h
      exact ⟨[], by simp, by simp [toksL], rfl, by simp [Rose.deepL], fun t' r' e => by cases e; exact h2⟩
    · split at h
      · cases h
      · rename_i y hy
        obtain ⟨y1, y2⟩ := y
        obtain ⟨e1, e2, e3⟩ := hp _ _ _ hy
        obtain ⟨s', g1, g2, g3, g4, g5⟩ := loopP_sound hp m _ _ _ _ h
        refine ⟨y1 :: s', by rw [g1]; simp, ?_, by simp [Rose.allL, e2, g3], by simp only [Rose.deepL]; omega, g5⟩
        rw [toksL_cons, List.append_assoc, ← g2, e1]
theorem parse_sound : ∀ (k : Nat) (l : List Tk) (y : Rose IL) (l' : List Tk), parseK k l = some (y, l') → l = toks y ++ l' ∧ y.all iright = true ∧ y.deep ≤ k
  | 0, l, y, l', h => by simp [parseK] at h
  | k + 1, [], y, l', h => by simp [parseK] at h
  | k + 1, t :: r, y, l', h => by
    simp only [parseK] at h
    split at h
    · rename_i h3
      simp only [Option.some.injEq, Prod.mk.injEq] at h
      obtain ⟨rfl, rfl⟩ := h
      rw [toks_word rfl]
      simp only [Rose.lab_node, tk_word h3]
      exact ⟨rfl, by simp [Rose.all, iright, irightK, Rose.allL], by simp only [Rose.deep, Rose.deepL]; omega⟩
    · split at h
      · rename_i h1
        split at h
        · rename_i s t2 r2 hl
          split at h
          · rename_i hz
            simp only [Option.some.injEq, Prod.mk.injEq] at h
            obtain ⟨rfl, rfl⟩ := h
            obtain ⟨s', g1, g2, g3, g4, g5⟩ := loopP_sound (k := k) (fun l y l' h => parse_sound k l y l' h) _ _ _ _ _ hl
            simp only [List.nil_append] at g1
            subst g1
            have e2 := g5 _ _ rfl
            rw [toks_list rfl, tk_open h1.1 h1.2, g2, tk_shut e2 hz]
            refine ⟨by simp, by simp [Rose.all, iright, irightK, g3], by simp only [Rose.deep]; omega⟩
          · cases h
        · cases h
      · cases h

theorem toks_head (y : Rose IL) : ∃ t r, toks y = t :: r ∧ t.kind ≠ 2 := by
  cases y with
  | node a s =>
    cases h : a.list with
    | false => exact ⟨_, _, toks_word (x := .node a s) h, by simp [tWord]⟩
    | true => exact ⟨_, _, toks_list (x := .node a s) h, by simp [tOpen]⟩
theorem loopP_toks {p : List Tk → Option (Rose IL × List Tk)} : ∀ (s : List (Rose IL)) (m : Nat) (acc : List (Rose IL)) (t : Tk) (r : List Tk), (∀ y, y ∈ s → ∀ l', p (toks y ++ l') = some (y, l')) → t.kind = 2 → s.length < m →
    loopP p m (toksL s ++ t :: r) acc = some (acc ++ s, t :: r)
  | [], m, acc, t, r, hp, ht, hm => by
    obtain ⟨m, rfl⟩ : ∃ q, m = q + 1 := ⟨m - 1, by simp at hm; omega⟩
    simp [toksL, loopP, ht]
  | y :: s, m, acc, t, r, hp, ht, hm => by
    obtain ⟨m, rfl⟩ : ∃ q, m = q + 1 := ⟨m - 1, by simp at hm; omega⟩
    have h1 := hp y List.mem_cons_self (toksL s ++ t :: r)
    obtain ⟨t0, r0, e, hne⟩ := toks_head y
    rw [toksL_cons, List.append_assoc]
    rw [e, List.cons_append] at h1 ⊢
    simp only [loopP, if_neg hne, h1]
    rw [loopP_toks s m _ t r (fun z hz => hp z (List.mem_cons_of_mem _ hz)) ht (by simp at hm; omega)]
    simp
theorem toksL_len_ge (s : List (Rose IL)) : s.length ≤ (toksL s).length := by
  induction s with
  | nil => simp
  | cons x s ih => rw [toksL_cons, List.length_append, List.length_cons]; have := (toks_le x).2; omega
theorem parse_toks (y : Rose IL) : ∀ (k : Nat) (l' : List Tk), y.all iright = true → y.deep ≤ k → parseK k (toks y ++ l') = some (y, l') := by
  refine Rose.ind (P := fun y => ∀ (k : Nat) (l' : List Tk), y.all iright = true → y.deep ≤ k → parseK k (toks y ++ l') = some (y, l')) (fun a s ih => ?_) y
  intro k l' ha hd
  simp only [Rose.all, Bool.and_eq_true, iright, irightK, Rose.deep] at ha hd
  obtain ⟨k, rfl⟩ : ∃ q, k = q + 1 := ⟨k - 1, by omega⟩
  obtain ⟨tx, li⟩ := a
  cases li with
  | false =>
    simp only [Bool.false_eq_true, if_false, decide_eq_true_eq, List.length_eq_zero_iff] at ha
    obtain ⟨rfl, _⟩ := ha
    rw [toks_word rfl]
    simp [parseK, tWord, txt]
  | true =>
    simp only [if_true, List.isEmpty_iff] at ha
    obtain ⟨rfl, hs⟩ := ha
    rw [toks_list rfl]
    simp only [Rose.sub_node, List.cons_append, List.append_assoc, List.nil_append]
    have hL : ∀ (s : List (Rose IL)), Rose.allL iright s = true → ∀ z, z ∈ s → z.all iright = true := by
      intro s
      induction s with
      | nil => intro _ z hz; cases hz
      | cons x s ih =>
        intro h z hz
        simp only [Rose.allL, Bool.and_eq_true] at h
        rcases List.mem_cons.1 hz with rfl | hz
        · exact h.1
        · exact ih h.2 z hz
    have hD : ∀ (s : List (Rose IL)) z, z ∈ s → z.deep ≤ Rose.deepL s := by
      intro s
      induction s with
      | nil => intro z hz; cases hz
      | cons x s ih =>
        intro z hz
        simp only [Rose.deepL]
        rcases List.mem_cons.1 hz with rfl | hz
        · omega
        · have := ih z hz; omega
    have h1 := loopP_toks (p := parseK k) s ((toksL s ++ tShut :: l').length + 1) [] tShut l' (fun z hz l'' => ih z hz k l'' (hL s hs z hz) (by have := hD s z hz; omega)) rfl (by have := toksL_len_ge s; simp only [List.length_append]; omega)
    have hz : tOpen.text.size = 0 := rfl
    have hk1 : tOpen.kind = 1 := rfl
    have hz2 : tShut.text.size = 0 := rfl
    rw [parseK, if_neg (by rw [hk1]; decide), if_pos ⟨hk1, hz⟩, h1]
    simp only [hz2, if_true, List.nil_append]
/-- What is built is what the document builds, if it may be. -/
theorem build_doc (T : List Tk) : buildB T = match docB T with
    | some y => if mayI y then some y else none
    | none => none := by
  cases hb : buildB T with
  | some x =>
    obtain ⟨rfl, hm⟩ := build_sound hb
    have hm' := hm
    unfold mayI at hm'
    simp only [Bool.and_eq_true, decide_eq_true_eq] at hm'
    have h1 := parse_toks x 16 [] hm'.1.1 hm'.1.2
    rw [List.append_nil] at h1
    have h2 : docB (toks x) = some x := by unfold docB; rw [h1]
    rw [h2]
    simp [hm]
  | none =>
    cases hd : docB T with
    | none => rfl
    | some y =>
      have h2 : T = toks y := by
        unfold docB at hd
        cases hp : parseK 16 T with
        | none => rw [hp] at hd; simp at hd
        | some z =>
          rw [hp] at hd
          obtain ⟨z1, z2⟩ := z
          cases z2 with
          | nil =>
            simp at hd
            subst hd
            have := (parse_sound _ _ _ _ hp).1
            simpa using this
          | cons _ _ => simp at hd
      subst h2
      cases hm : mayI y with
      | false => simp [hm]
      | true => rw [build_toks hm] at hb; cases hb
theorem doc_spec {T : List Tk} {y : Rose IL} (h : docB T = some y) : T = toks y ∧ y.all iright = true ∧ y.deep ≤ 16 := by
  unfold docB at h
  cases hp : parseK 16 T with
  | none => rw [hp] at h; simp at h
  | some z =>
    rw [hp] at h
    obtain ⟨z1, z2⟩ := z
    cases z2 with
    | nil =>
      simp at h
      subst h
      have := parse_sound _ _ _ _ hp
      simpa using this
    | cons _ _ => simp at h
end Go.Proofs.Ytopfpfpefljkkaa

/- A builder in memory: its stack of open lists. -/
namespace Go.Proofs.Ytopfpfpefljkkaa
open Go.RowKit
set_option linter.unusedVariables false
set_option linter.unusedSimpArgs false

abbrev BDT : TypeId := 87
def rf1 (x : Fr) : List Value := [x.v]
theorem rf1_len (x : Fr) : (rf1 x).length = 1 := rfl
/-- What no level may lie in. -/
def avb (B bb : Nat) (vr : Value) : Nat → Prop := fun c => c < B ∨ c = bb ∨ vr.ownBlock = some c
structure BldAt (w : World) (B bb : Nat) (vr : Value) (left : Nat) (st : List Fr) : Prop where
  ho : Blk w bb #[vr, .int .i64 left] BDT
  row : OwnG rf1 1 w B ST vr st.reverse
  nbo : vr.ownBlock ≠ some bb
  lev : Levs w (avb B bb vr) st
  hbo : B ≤ bb
theorem BldAt.fut {w w' : World} {B bb : Nat} {vr : Value} {left : Nat} {st : List Fr} (h : BldAt w B bb vr left st) (hb : Below w.heap.size w w') : BldAt w' B bb vr left st :=
  ⟨Below.blk hb h.ho h.ho.lt, h.row.below hb, h.nbo, h.lev.below hb, h.hbo⟩

/-- An item was put to the inmost list's others. -/
theorem bld_add {w W : World} {B bb go gg cr cap N left : Nat} {x : Fr} {xs : List Fr} {y : Elt IL} {Qx : Nat → Prop}
    (h : BldAt w B bb (.slice (some ⟨go, 0, none⟩) (N + 1) cr) left (x :: xs)) (hN : xs.length = N) (hx : ISubsQ w Qx y.u y.sub) (hQ : ∀ c, Qx c → ¬ avb B bb (.slice (some ⟨go, 0, none⟩) (N + 1) cr) c)
    (hL : Levs w (fun c => avb B bb (.slice (some ⟨go, 0, none⟩) (N + 1) cr) c ∨ Qx c) (x :: xs)) (hyl : y.lab.text.length ≤ maxLen)
    (hfar : ∀ c, c < w.heap.size → c ≠ go → x.v.ownBlock ≠ some c → W.heap[c]? = w.heap[c]?) (hs : w.heap.size ≤ W.heap.size)
    (hown : OwnG itf 3 W 0 IT (.slice (some ⟨gg, 0, none⟩) (x.L.length + 1) cap) (x.L ++ [y])) (hat : x.v.ownBlock = some gg ∨ w.heap.size ≤ gg)
    (hgo : W.heap[go]? = (w.setCell ⟨go, N, none⟩ (.slice (some ⟨gg, 0, none⟩) (x.L.length + 1) cap)).heap[go]?) (s5 : W.os = w.os ∧ W.tape = w.tape ∧ W.output = w.output) :
    BldAt W B bb (.slice (some ⟨go, 0, none⟩) (N + 1) cr) left (⟨.slice (some ⟨gg, 0, none⟩) (x.L.length + 1) cap, x.L ++ [y], 0⟩ :: xs) ∧ Below B w W := by
  obtain ⟨Q, hq1, hq2, hq3⟩ := hL
  have hgol : go < w.heap.size ∧ B ≤ go := ⟨(h.row.block go rfl).2.1, (h.row.block go rfl).1⟩
  have hqgo : ∀ c, Q c → c ≠ go := fun c hc e => hq1 c hc (.inl (by subst e; exact .inr (.inr rfl)))
  have hxgo : ∀ c, Qx c → c ≠ go := fun c hc e => hQ c hc (by subst e; exact .inr (.inr rfl))
  have hvlt : ∀ b, x.v.ownBlock = some b → b < w.heap.size ∧ Q b := fun b hb => ⟨(hq2.1.block b hb).2.1, hq2.2.1 b hb⟩
  have hqx : ∀ c, Qx c → x.v.ownBlock ≠ some c := fun c hc e => hq1 c (hvlt c e).2 (.inr hc)
  have hav : ∀ c, avb B bb (.slice (some ⟨go, 0, none⟩) (N + 1) cr) c → ¬ Q c := fun c hc hq => hq1 c hq (.inl hc)
  have hnv : ∀ c, ¬ Q c → x.v.ownBlock ≠ some c := fun c hq e => hq (hvlt c e).2
  have hbogo : bb ≠ go := fun e => h.nbo (by subst e; rfl)
  have hggo : gg ≠ go := by
    rintro rfl
    rcases hat with hat | hat
    · exact hqgo _ (hvlt _ hat).2 rfl
    · omega
  have hrev : ∀ z : Fr, (z :: xs).reverse[N]? = some z := fun z => by simp [← hN]
  have hset : ∀ z u : Fr, (z :: xs).reverse.set N u = (u :: xs).reverse := fun z u => by simp [← hN]
  have hrow3 := h.row.set rf1_len (hrev x) (j := 0) (x := .slice (some ⟨gg, 0, none⟩) (x.L.length + 1) cap) (z := ⟨.slice (some ⟨gg, 0, none⟩) (x.L.length + 1) cap, x.L ++ [y], 0⟩) (by decide) rfl
  rw [hset, Nat.mul_one, Nat.add_zero] at hrow3
  refine ⟨⟨?_, ?_, h.nbo, ⟨fun c => Q c ∨ Qx c ∨ (c = gg ∧ gg < W.heap.size), fun c hc hn => ?_, ⟨hown, fun b hb => ?_, fun z hz => ?_⟩, ?_⟩, h.hbo⟩, ?_⟩
  · unfold Blk
    rw [hfar bb h.ho.lt hbogo (hnv bb (hav bb (.inr (.inl rfl))))]; exact h.ho
  · refine hrow3.keep fun b hb => ?_
    simp [Value.ownBlock] at hb
    subst hb
    exact hgo
  · rcases hc with hc | hc | ⟨rfl, _⟩
    · exact hq1 c hc (.inl hn)
    · exact hQ c hc hn
    · rcases hat with e | e
      · exact hq1 _ (hvlt _ e).2 (.inl hn)
      · rcases hn with hn | rfl | hn
        · have := hgol.2; omega
        · have := h.ho.lt; omega
        · simp [Value.ownBlock] at hn; exact hggo hn.symm
  · simp [Value.ownBlock] at hb
    subst hb
    exact .inr (.inr ⟨rfl, (hown.block _ rfl).2.1⟩)
  · have hne : ∀ c, c < w.heap.size → x.v.ownBlock ≠ some c → gg ≠ c := fun c hc hv e => by
      subst e
      rcases hat with e | e
      · exact hv e
      · omega
    rcases List.mem_append.1 hz with hz | hz
    · have hz2 := hq2.2.2 z hz
      refine ⟨hz2.1, Shape.Subs.keep hz2.2 hs (fun c hc hq => ⟨.inl hq.1, ?_⟩) fun c hc hq => hfar c hc (hqgo c hq.1) hq.2⟩
      intro e
      simp [Value.ownBlock] at e
      exact hne c hc hq.2 e
    · simp at hz
      subst hz
      refine ⟨hyl, Shape.Subs.keep hx hs (fun c hc hq => ⟨.inr (.inl hq), ?_⟩) fun c hc hq => hfar c hc (hxgo c hq) (hqx c hq)⟩
      intro e
      simp [Value.ownBlock] at e
      exact hne c hc (hqx c hq) e
  · refine hq3.keep hs (fun c hc hn => hfar c hc (fun e => hn (.inl (.inl (by subst e; exact .inr (.inr rfl))))) (hnv c fun hq => hn (.inr hq))) fun c hc hn => ?_
    rcases hn with hn | hn | hn | ⟨rfl, _⟩
    · exact .inl (.inl hn)
    · exact .inr hn
    · exact .inl (.inr hn)
    · rcases hat with e | e
      · exact .inr (hvlt _ e).2
      · omega
  · refine ⟨s5.1, s5.2.1, s5.2.2, hs, fun c hc => ?_⟩
    exact hfar c (by omega) (by omega) (hnv c (hav c (.inl hc)))

/-- A list is opened: the row behind it, stored. -/
theorem bld_push {w w1 w2 : World} {B bb g cap left : Nat} {vr : Value} {st : List Fr} (h : BldAt w B bb vr left st)
    (hrow : OwnG rf1 1 w2 B ST (.slice (some ⟨g, 0, none⟩) (st.length + 1) cap) (st.reverse ++ [⟨.slice none 0 0, [], 0⟩])) (hw : Below w.heap.size w w1) (hg : w1.grownBy w2 vr.ownBlock) (hat : vr.ownBlock = some g ∨ g = w1.heap.size) :
    BldAt (w2.setCell ⟨bb, 0, none⟩ (.slice (some ⟨g, 0, none⟩) (st.length + 1) cap)) B bb (.slice (some ⟨g, 0, none⟩) (st.length + 1) cap) left (⟨.slice none 0 0, [], 0⟩ :: st) ∧
      Below B w (w2.setCell ⟨bb, 0, none⟩ (.slice (some ⟨g, 0, none⟩) (st.length + 1) cap)) := by
  have hsz1 := hw.size
  have hsz2 := hg.size
  have hfar : ∀ c, c < w.heap.size → c ≠ bb → vr.ownBlock ≠ some c → (w2.setCell ⟨bb, 0, none⟩ (.slice (some ⟨g, 0, none⟩) (st.length + 1) cap)).heap[c]? = w.heap[c]? := fun c hc hn hv =>
    (Below.heap_setCell _ _ _ _ hn).trans ((hg.block c (by omega) (fun e => hv e.symm)).trans (hw.block c hc))
  have hbo1 : Blk w1 bb #[vr, .int .i64 left] BDT := Below.blk hw h.ho h.ho.lt
  have hbo2 : Blk w2 bb #[vr, .int .i64 left] BDT := by
    unfold Blk
    rw [hg.block bb hbo1.lt (fun e => h.nbo e.symm)]; exact hbo1
  have hgb : g ≠ bb := by
    rintro rfl
    rcases hat with e | e
    · exact h.nbo e
    · have := hbo1.lt; omega
  have hsz : (w2.setCell ⟨bb, 0, none⟩ (.slice (some ⟨g, 0, none⟩) (st.length + 1) cap)).heap.size = w2.heap.size := by simp [World.setCell]
  refine ⟨⟨hbo2.set 0 _, ?_, ?_, ⟨fun _ => False, fun c hc => hc.elim, OwnI.nil _ _, ?_⟩, h.hbo⟩, ?_⟩
  · rw [List.reverse_cons]
    exact hrow.keep fun b hb => by
      simp [Value.ownBlock] at hb
      exact Below.heap_setCell _ _ _ _ (by show b ≠ bb; exact hb ▸ hgb)
  · intro e; simp [Value.ownBlock] at e; exact hgb e
  · refine h.lev.keep (by rw [hsz]; omega) (fun c hc hn => hfar c hc (fun e => hn (.inr (.inl e))) fun e => hn (.inr (.inr e))) fun c hc hn => ?_
    rcases hn with (hn | hn | hn) | hn
    · exact .inl hn
    · exact .inr (.inl hn)
    · simp [Value.ownBlock] at hn
      subst hn
      rcases hat with e | e
      · exact .inr (.inr e)
      · omega
    · exact hn.elim
  · refine ⟨?_, ?_, ?_, by rw [hsz]; omega, fun c hc => ?_⟩
    · exact hg.os.trans hw.os
    · exact hg.tape.trans hw.tape
    · exact hg.output.trans hw.output
    · have hcl : c < w.heap.size := by have := h.hbo; have := h.ho.lt; omega
      refine hfar c hcl (by have := h.hbo; omega) fun e => ?_
      have := (h.row.block c e).1
      omega

/-- The inmost list is taken off. -/
theorem bld_pop {w : World} {B bb go cr N left : Nat} {x : Fr} {xs : List Fr} (h : BldAt w B bb (.slice (some ⟨go, 0, none⟩) (N + 1) cr) left (x :: xs)) (hN : xs.length = N) :
    ∃ Q : Nat → Prop, BldAt (w.setCell ⟨bb, 0, none⟩ (.slice (some ⟨go, 0, none⟩) N cr)) B bb (.slice (some ⟨go, 0, none⟩) N cr) left xs ∧ OwnI (w.setCell ⟨bb, 0, none⟩ (.slice (some ⟨go, 0, none⟩) N cr)) Q x.v x.L ∧
      (∀ c, Q c → ¬ avb B bb (.slice (some ⟨go, 0, none⟩) N cr) c) ∧ Levs (w.setCell ⟨bb, 0, none⟩ (.slice (some ⟨go, 0, none⟩) N cr)) (fun c => avb B bb (.slice (some ⟨go, 0, none⟩) N cr) c ∨ Q c) xs ∧
      Below B w (w.setCell ⟨bb, 0, none⟩ (.slice (some ⟨go, 0, none⟩) N cr)) := by
  obtain ⟨Q, hq1, hq2, hq3⟩ := h.lev
  have hsz : (w.setCell ⟨bb, 0, none⟩ (.slice (some ⟨go, 0, none⟩) N cr)).heap.size = w.heap.size := by simp [World.setCell]
  have hfar : ∀ c, c ≠ bb → (w.setCell ⟨bb, 0, none⟩ (.slice (some ⟨go, 0, none⟩) N cr)).heap[c]? = w.heap[c]? := fun c hn => Below.heap_setCell _ _ _ _ hn
  have hQbo : ∀ c, Q c → c ≠ bb := fun c hc e => hq1 c hc (.inr (.inl e))
  have hlev : Levs (w.setCell ⟨bb, 0, none⟩ (.slice (some ⟨go, 0, none⟩) N cr)) (fun c => avb B bb (.slice (some ⟨go, 0, none⟩) N cr) c ∨ Q c) xs :=
    hq3.keep (by rw [hsz]; exact Nat.le_refl _) (fun c _ hn => hfar c fun e => hn (.inl (.inr (.inl e)))) fun c _ hn => hn
  have hgb : go ≠ bb := fun e => h.nbo (by subst e; rfl)
  refine ⟨Q, ⟨h.ho.set 0 _, ?_, h.nbo, hlev.keep (Nat.le_refl _) (fun _ _ _ => rfl) fun c _ hn => .inl hn, h.hbo⟩, ?_, fun c hc => hq1 c hc, hlev, ?_⟩
  · have := (OwnG.cut h.row rf1_len (m := N) (by simp [hN])).keep (w' := w.setCell ⟨bb, 0, none⟩ (.slice (some ⟨go, 0, none⟩) N cr)) fun b hb => by
      simp [Value.ownBlock] at hb
      exact hfar b (by rw [← hb]; exact hgb)
    have e : (x :: xs).reverse.take N = xs.reverse := by
      rw [List.reverse_cons, List.take_append_of_le_length (by simp [hN]), List.take_of_length_le (by simp [hN])]
    rwa [e] at this
  · exact hq2.keep (by rw [hsz]; exact Nat.le_refl _) (fun c _ hc => hfar c (hQbo c hc)) fun c _ hc => hc
  · exact ⟨rfl, rfl, rfl, by rw [hsz]; exact Nat.le_refl _, fun c hc => hfar c (by have := h.hbo; omega)⟩

/-- How many items are left is stored. -/
theorem bld_left {w : World} {B bb left l2 : Nat} {vr : Value} {st : List Fr} (h : BldAt w B bb vr left st) : BldAt (w.setCell ⟨bb, 1, none⟩ (.int .i64 l2)) B bb vr l2 st ∧ Below B w (w.setCell ⟨bb, 1, none⟩ (.int .i64 l2)) := by
  have hfar : ∀ c, c ≠ bb → (w.setCell ⟨bb, 1, none⟩ (.int .i64 l2)).heap[c]? = w.heap[c]? := fun c hn => Below.heap_setCell _ _ _ _ hn
  have hsz : (w.setCell ⟨bb, 1, none⟩ (.int .i64 l2)).heap.size = w.heap.size := by simp [World.setCell]
  refine ⟨⟨h.ho.set 1 _, h.row.keep fun b hb => hfar b fun e => h.nbo (e ▸ hb), h.nbo, h.lev.keep (by rw [hsz]; exact Nat.le_refl _) (fun c _ hn => hfar c fun e => hn (.inr (.inl e))) fun c _ hn => hn, h.hbo⟩, ?_⟩
  exact ⟨rfl, rfl, rfl, by rw [hsz]; exact Nat.le_refl _, fun c hc => hfar c (by have := h.hbo; omega)⟩
end Go.Proofs.Ytopfpfpefljkkaa

/- walk.builder.add: an item is put behind the others of the inmost list. -/
namespace Go.Proofs.Ytopfpfpefljkkaa
open Go.RowKit
set_option linter.unusedVariables false
set_option linter.unusedSimpArgs false

/-- What stays behind an append to the inmost list's row. -/
theorem add_stay {w W w2 : World} {B bb go N cr left gg : Nat} {x : Fr} {xs : List Fr} (h : BldAt w B bb (.slice (some ⟨go, 0, none⟩) (N + 1) cr) left (x :: xs)) (hW : Below w.heap.size w W) (hg : W.grownBy w2 x.v.ownBlock) (hat : x.v.ownBlock = some gg ∨ gg = W.heap.size) :
    (∀ c, c < W.heap.size → (c = go ∨ c = bb ∨ w.heap.size ≤ c) → w2.heap[c]? = W.heap[c]? ∧ gg ≠ c) ∧ (∀ c, c < w.heap.size → x.v.ownBlock ≠ some c → w2.heap[c]? = w.heap[c]?) ∧ (x.v.ownBlock = some gg ∨ w.heap.size ≤ gg) ∧ w.heap.size ≤ w2.heap.size ∧ (w2.os = w.os ∧ w2.tape = w.tape ∧ w2.output = w.output) := by
  obtain ⟨Q, hq1, hq2, hq3⟩ := h.lev
  have hvlt : ∀ b, x.v.ownBlock = some b → b < w.heap.size ∧ Q b := fun b hb => ⟨(hq2.1.block b hb).2.1, hq2.2.1 b hb⟩
  have hz := hW.size
  refine ⟨fun c hc hor => ?_, fun c hc hn => (hg.block c (by omega) fun e => hn e.symm).trans (hW.block c hc), hat.imp id fun e => by omega, Nat.le_trans hz hg.size, hg.os.trans hW.os, hg.tape.trans hW.tape, hg.output.trans hW.output⟩
  have hn : x.v.ownBlock ≠ some c := fun e => by
    rcases hor with rfl | rfl | h1
    · exact hq1 _ (hvlt _ e).2 (.inr (.inr rfl))
    · exact hq1 _ (hvlt _ e).2 (.inr (.inl rfl))
    · have := (hvlt _ e).1; omega
  refine ⟨hg.block c hc fun e => hn e.symm, ?_⟩
  rintro rfl
  rcases hat with e | e
  · exact hn e
  · omega
theorem cellH_of {w w' : World} {b i : Nat} (h : w'.heap[b]? = w.heap[b]?) : w'.cell? ⟨b, i, none⟩ = w.cell? ⟨b, i, none⟩ := World.cell?_of_block (w := w) h
theorem frozenH_of {w w' : World} {b i : Nat} (h : w'.heap[b]? = w.heap[b]?) : w'.frozen? ⟨b, i, none⟩ = w.frozen? ⟨b, i, none⟩ := by
  simp only [World.frozen?, h]

set_option maxRecDepth 100000 in
set_option maxHeartbeats 4000000 in
theorem build_add (x : Fr) (xs : List Fr) (w : World) (B bb : Nat) (vr : Value) (left : Nat) (y : Elt IL) (Qx : Nat → Prop) (h : BldAt w B bb vr left (x :: xs)) (hn : xs.length ≤ 100) (hl : x.L.length ≤ 100000)
    (hx : ISubsQ w Qx y.u y.sub) (hQ : ∀ c, Qx c → ¬ avb B bb vr c) (hL : Levs w (fun c => avb B bb vr c ∨ Qx c) (x :: xs)) (hyl : y.lab.text.length ≤ maxLen) :
    Calls Try.prog 60 #[.pointer (some ⟨bb, 0, none⟩), .agg #[.string (txt y.lab), .bool y.lab.list, y.u]] w
      fun e w' => e = .returned (.tuple #[]) ∧ ∃ v', BldAt w' B bb vr left (⟨v', x.L ++ [y], 0⟩ :: xs) ∧ Below B w w' := by
  obtain ⟨u, hu⟩ : ∃ u, y.u = u := ⟨_, rfl⟩
  obtain ⟨o, n, c, rfl, _⟩ : ∃ o n c, u = .slice o n c ∧ True := by obtain ⟨o, c, h1, _⟩ := ISubsQ.slice hx; exact ⟨o, _, c, by rw [← hu, h1], trivial⟩
  obtain ⟨g, hg⟩ : ∃ g, w.heap.size = g := ⟨_, rfl⟩
  obtain ⟨oa, cr, hvr⟩ := h.row.slice
  have hrl : (x :: xs).reverse.length = xs.length + 1 := by simp
  rw [hrl] at hvr
  subst hvr
  obtain ⟨go, rfl, hBgo, hgolt, _, hcap, hcell, hfz⟩ := OwnG.at_ h.row rf1_len (i := xs.length) (y := x) (by simp)
  have r0 : w.cell? ⟨go, xs.length, none⟩ = some x.v := by have := hcell 0 (by decide); rw [Nat.mul_one, Nat.add_zero] at this; exact this
  have z0 := hfz xs.length
  have o0 : w.cell? ⟨bb, 0, none⟩ = some (.slice (some ⟨go, 0, none⟩) (xs.length + 1) cr) := h.ho.cell 0
  have hblt := h.ho.lt
  obtain ⟨ov, cv, hv⟩ : ∃ ov cv, x.v = .slice ov x.L.length cv := by
    obtain ⟨Q, _, h1, _⟩ := h.lev
    exact h1.slice
  obtain ⟨N, hN⟩ : ∃ N, xs.length = N := ⟨_, rfl⟩
  obtain ⟨M, hM⟩ : ∃ M, x.L.length = M := ⟨_, rfl⟩
  rw [hM] at hv hl
  rw [hN] at r0 z0 o0 hn h hQ hL hcap ⊢
  rw [hv] at r0
  have hown0 : Hid (∀ W, Below w.heap.size w W → OwnG itf 3 W 0 IT (.slice ov M cv) x.L) := Lib.hid fun W hb => by
    obtain ⟨Q, _, h1, _⟩ := h.lev
    rw [← hv]
    exact h1.1.below hb
  have H := Lib.hid h
  have HFIN : Hid (∀ W gg cap, OwnG itf 3 W 0 IT (.slice (some ⟨gg, 0, none⟩) (M + 1) cap) (x.L ++ [y]) → (∀ c, c < w.heap.size → c ≠ go → x.v.ownBlock ≠ some c → W.heap[c]? = w.heap[c]?) → w.heap.size ≤ W.heap.size → (x.v.ownBlock = some gg ∨ w.heap.size ≤ gg) →
      W.heap[go]? = (w.setCell ⟨go, N, none⟩ (.slice (some ⟨gg, 0, none⟩) (M + 1) cap)).heap[go]? → (W.os = w.os ∧ W.tape = w.tape ∧ W.output = w.output) →
      ∃ v', BldAt W B bb (.slice (some ⟨go, 0, none⟩) (N + 1) cr) left (⟨v', x.L ++ [y], 0⟩ :: xs) ∧ Below B w W) := Lib.hid fun W gg cap q1 q2 q3 q4 q5 q6 => by
    rw [← hM] at q1 q5
    exact ⟨_, bld_add h hN hx hQ hL hyl q2 q3 q1 q4 q5 q6⟩
  have STAY : Hid (∀ W w2 gg, Below w.heap.size w W → W.grownBy w2 x.v.ownBlock → (x.v.ownBlock = some gg ∨ gg = W.heap.size) →
      (∀ c, c < W.heap.size → (c = go ∨ c = bb ∨ w.heap.size ≤ c) → w2.heap[c]? = W.heap[c]? ∧ gg ≠ c) ∧ (∀ c, c < w.heap.size → x.v.ownBlock ≠ some c → w2.heap[c]? = w.heap[c]?) ∧ (x.v.ownBlock = some gg ∨ w.heap.size ≤ gg) ∧ w.heap.size ≤ w2.heap.size ∧ (w2.os = w.os ∧ w2.tape = w.tape ∧ w2.output = w.output)) := Lib.hid fun W w2 gg a b c => add_stay h a b c
  have HVB : Hid (∀ b, x.v.ownBlock = some b → b ≠ go) := Lib.hid fun b hb e => by
    obtain ⟨Q, hq1, hq2, _⟩ := h.lev
    subst e
    exact hq1 _ (hq2.2.1 _ hb) (.inr (.inr rfl))
  have hN1 : (N : Int) < (N : Int) + 1 := by omega
  have hN0 : (0 : Int) ≤ (N : Int) := Int.natCast_nonneg _
  have HW := Lib.hid (box_item (T := txt y.lab) (l := y.lab.list) (t := IT) hx)
  have HV := Lib.hid hv
  have HU := Lib.hid hu
  have HM := Lib.hid hM
  have hyc : Hid (itf y = [.string (txt y.lab), .bool y.lab.list, .slice o n c]) := Lib.hid (by unfold itf; rw [hu])
  have HR0 := Lib.hid r0
  rw [hu] at HW ⊢
  rw [hv] at STAY HFIN HVB
  rw [hg] at hgolt hblt HW hown0 STAY HFIN
  clear h hL hx hrl hQ hcell hfz hv hM hN hu
  go_enter Try.func60, Try.ntmps60
  go_upto_region 1 with fail
  generalize w.alloc (.cells #[.string (txt y.lab), .bool y.lab.list, .slice o n c] IT) = w1 at *
  obtain ⟨hb1, hx1, hsz1, b0, b1, b2, hB1⟩ := HW.out _ rfl
  have p0 := (hb1.cell (p := ⟨bb, 0, none⟩) hblt).trans o0
  have s0 := (hb1.cell (p := ⟨go, N, none⟩) hgolt).trans r0
  have HB1 := Lib.hid hb1
  have HBK := Lib.hid hB1
  clear HW hb1 hx1 hB1 r0 o0
  go_upto_region 2 with fail
  go_big_region
  · have ha := (Below.refl w1.heap.size w1).alloc (Nat.le_refl _) (.cells #[.bool false] 4)
    have hb2 : Below g w (w1.alloc (.cells #[.bool false] 4)).drew := (HB1.out.trans (ha.mono (by omega))).drew
    have hk2 : (w1.alloc (.cells #[.bool false] 4)).drew.heap.size = g + 2 := by show (w1.alloc _).heap.size = g + 2; simp; omega
    have p2 : (w1.alloc (.cells #[.bool false] 4)).drew.cell? ⟨bb, 0, none⟩ = _ := (ha.cell (p := ⟨bb, 0, none⟩) (by show bb < w1.heap.size; omega)).trans p0
    have s2 : (w1.alloc (.cells #[.bool false] 4)).drew.cell? ⟨go, N, none⟩ = _ := (ha.cell (p := ⟨go, N, none⟩) (by show go < w1.heap.size; omega)).trans s0
    have d0 : (w1.alloc (.cells #[.bool false] 4)).drew.cell? ⟨g, 0, none⟩ = _ := (ha.cell (p := ⟨g, 0, none⟩) (by show g < w1.heap.size; omega)).trans b0
    have d1 : (w1.alloc (.cells #[.bool false] 4)).drew.cell? ⟨g, 1, none⟩ = _ := (ha.cell (p := ⟨g, 1, none⟩) (by show g < w1.heap.size; omega)).trans b1
    have d2 : (w1.alloc (.cells #[.bool false] 4)).drew.cell? ⟨g, 2, none⟩ = _ := (ha.cell (p := ⟨g, 2, none⟩) (by show g < w1.heap.size; omega)).trans b2
    generalize (w1.alloc (.cells #[.bool false] 4)).drew = w2 at *
    have HB2 := Lib.hid hb2
    have A1 : Hid (∀ cs W, w2.drew.alloc (.cells cs IT) = W → OwnG itf 3 W 0 IT (.slice ov M cv) x.L ∧ Blk W (g + 2) cs IT ∧ Below g w W ∧ W.heap.size = g + 3 ∧
        (W.cell? ⟨bb, 0, none⟩ = some (.slice (some ⟨go, 0, none⟩) (N + 1) cr) ∧ W.cell? ⟨go, N, none⟩ = some (.slice ov M cv) ∧ W.cell? ⟨g, 0, none⟩ = some (.string (txt y.lab)) ∧ W.cell? ⟨g, 1, none⟩ = some (.bool y.lab.list) ∧ W.cell? ⟨g, 2, none⟩ = some (.slice o n c))) := Lib.hid fun cs W e => by
      subst e
      have ha2 := (Below.refl w2.heap.size w2).drew.alloc (Nat.le_refl _) (.cells cs IT)
      have hb3 : Below g w (w2.drew.alloc (.cells cs IT)) := HB2.out.trans (ha2.mono (by omega))
      have hB := Blk.new w2.drew cs IT
      rw [show w2.drew.heap.size = g + 2 from hk2] at hB
      refine ⟨hown0.out _ hb3, hB, hb3, by show (w2.drew.alloc _).heap.size = g + 3; simp only [World.size_alloc]; show w2.heap.size + 1 = g + 3; omega, ?_, ?_, ?_, ?_, ?_⟩
      · exact (ha2.cell (p := ⟨bb, 0, none⟩) (by show bb < w2.heap.size; omega)).trans p2
      · exact (ha2.cell (p := ⟨go, N, none⟩) (by show go < w2.heap.size; omega)).trans s2
      · exact (ha2.cell (p := ⟨g, 0, none⟩) (by show g < w2.heap.size; omega)).trans d0
      · exact (ha2.cell (p := ⟨g, 1, none⟩) (by show g < w2.heap.size; omega)).trans d1
      · exact (ha2.cell (p := ⟨g, 2, none⟩) (by show g < w2.heap.size; omega)).trans d2
    clear ha p0 s0 b0 b1 b2 HBK HB1 hb2 hsz1
    go_upto_region 5 with fail
    refine wp_region_bar (S := (fun W' => W'.cell? ⟨bb, 0, none⟩ = some (.slice (some ⟨go, 0, none⟩) (N + 1) cr) ∧ W'.cell? ⟨go, N, none⟩ = some (.slice ov M cv) ∧ W'.cell? ⟨g, 0, none⟩ = some (.string (txt y.lab)) ∧ W'.cell? ⟨g, 1, none⟩ = some (.bool y.lab.list) ∧ W'.cell? ⟨g, 2, none⟩ = some (.slice o n c))) 16 (by kernel_rfl) ⟨p2, s2, d0, d1, d2⟩ (fun hHeld => ?_)
    refine wpAnyB_take (i := 0) (oi := ?oib0) (v := ?vb0) ?hib0 (by kernel_rfl) (by kernel_rfl) (by kernel_rfl) (by kernel_rfl) (by kernel_rfl) ?hQb0 (Or.inl ⟨?hwb0, ?hyb0⟩) hHeld ?restb0
    case hib0 => simp only [List.getElem?_toArray, List.getElem?_cons_succ, List.getElem?_cons_zero]; rfl
    case hQb0 => exact fun _ _ _ h => h
    case hwb0 => rfl
    case hyb0 => (intro w hSw; (try dsimp only at hSw); go_simp; try rfl)
    simp only [Act.put, List.setIfInBounds_toArray, List.set_cons_zero, List.set_cons_succ]
    refine wpAnyB_take (i := 1) (oi := ?oib1) (v := ?vb1) ?hib1 (by kernel_rfl) (by kernel_rfl) (by kernel_rfl) (by kernel_rfl) (by kernel_rfl) ?hQb1 (Or.inl ⟨?hwb1, ?hyb1⟩) hHeld ?restb1
    case hib1 => simp only [List.getElem?_toArray, List.getElem?_cons_succ, List.getElem?_cons_zero]; rfl
    case hQb1 => exact fun _ _ _ h => h
    case hwb1 => rfl
    case hyb1 => (intro w hSw; (try dsimp only at hSw); go_simp; try rfl)
    simp only [Act.put, List.setIfInBounds_toArray, List.set_cons_zero, List.set_cons_succ]
    refine wpAnyB_take (i := 2) (oi := ?oib2) (v := ?vb2) ?hib2 (by kernel_rfl) (by kernel_rfl) (by kernel_rfl) (by kernel_rfl) (by kernel_rfl) ?hQb2 (Or.inl ⟨?hwb2, ?hyb2⟩) hHeld ?restb2
    case hib2 => simp only [List.getElem?_toArray, List.getElem?_cons_succ, List.getElem?_cons_zero]; rfl
    case hQb2 => exact fun _ _ _ h => h
    case hwb2 => rfl
    case hyb2 => (intro w hSw; (try dsimp only at hSw); go_simp; try rfl)
    simp only [Act.put, List.setIfInBounds_toArray, List.set_cons_zero, List.set_cons_succ]
    refine wpAnyB_take (i := 3) (oi := ?oib3) (v := ?vb3) ?hib3 (by kernel_rfl) (by kernel_rfl) (by kernel_rfl) (by kernel_rfl) (by kernel_rfl) ?hQb3 (Or.inl ⟨?hwb3, ?hyb3⟩) hHeld ?restb3
    case hib3 => simp only [List.getElem?_toArray, List.getElem?_cons_succ, List.getElem?_cons_zero]; rfl
    case hQb3 => exact fun _ _ _ h => h
    case hwb3 => rfl
    case hyb3 => (intro w hSw; (try dsimp only at hSw); go_simp; try rfl)
    simp only [Act.put, List.setIfInBounds_toArray, List.set_cons_zero, List.set_cons_succ]
    refine wpAnyB_take (i := 4) (oi := ?oib4) (v := ?vb4) ?hib4 (by kernel_rfl) (by kernel_rfl) (by kernel_rfl) (by kernel_rfl) (by kernel_rfl) ?hQb4 (Or.inl ⟨?hwb4, ?hyb4⟩) hHeld ?restb4
    case hib4 => simp only [List.getElem?_toArray, List.getElem?_cons_succ, List.getElem?_cons_zero]; rfl
    case hQb4 => exact fun _ _ _ h => h
    case hwb4 => rfl
    case hyb4 => (intro w hSw; (try dsimp only at hSw); go_simp; try rfl)
    simp only [Act.put, List.setIfInBounds_toArray, List.set_cons_zero, List.set_cons_succ]
    refine wpAnyB_take (i := 5) (oi := ?oib5) (v := ?vb5) ?hib5 (by kernel_rfl) (by kernel_rfl) (by kernel_rfl) (by kernel_rfl) (by kernel_rfl) ?hQb5 (Or.inl ⟨?hwb5, ?hyb5⟩) hHeld ?restb5
    case hib5 => simp only [List.getElem?_toArray, List.getElem?_cons_succ, List.getElem?_cons_zero]; rfl
    case hQb5 => exact fun _ _ _ h => h
    case hwb5 => rfl
    case hyb5 => (intro w hSw; (try dsimp only at hSw); go_simp; try rfl)
    simp only [Act.put, List.setIfInBounds_toArray, List.set_cons_zero, List.set_cons_succ]
    refine wpAnyB_take (i := 6) (oi := ?oib6) (v := ?vb6) ?hib6 (by kernel_rfl) (by kernel_rfl) (by kernel_rfl) (by kernel_rfl) (by kernel_rfl) ?hQb6 (Or.inl ⟨?hwb6, ?hyb6⟩) hHeld ?restb6
    case hib6 => simp only [List.getElem?_toArray, List.getElem?_cons_succ, List.getElem?_cons_zero]; rfl
    case hQb6 => exact fun _ _ _ h => h
    case hwb6 => rfl
    case hyb6 => (intro w hSw; (try dsimp only at hSw); go_simp; try rfl)
    simp only [Act.put, List.setIfInBounds_toArray, List.set_cons_zero, List.set_cons_succ]
    refine wpAnyB_take (i := 7) (oi := ?oib7) (v := ?vb7) ?hib7 (by kernel_rfl) (by kernel_rfl) (by kernel_rfl) (by kernel_rfl) (by kernel_rfl) ?hQb7 (Or.inl ⟨?hwb7, ?hyb7⟩) hHeld ?restb7
    case hib7 => simp only [List.getElem?_toArray, List.getElem?_cons_succ, List.getElem?_cons_zero]; rfl
    case hQb7 => exact fun _ _ _ h => h
    case hwb7 => rfl
    case hyb7 => (intro w hSw; (try dsimp only at hSw); go_simp; try rfl)
    simp only [Act.put, List.setIfInBounds_toArray, List.set_cons_zero, List.set_cons_succ]
    refine wpAnyB_take (i := 8) (oi := ?oib8) (v := ?vb8) ?hib8 (by kernel_rfl) (by kernel_rfl) (by kernel_rfl) (by kernel_rfl) (by kernel_rfl) ?hQb8 (Or.inl ⟨?hwb8, ?hyb8⟩) hHeld ?restb8
    case hib8 => simp only [List.getElem?_toArray, List.getElem?_cons_succ, List.getElem?_cons_zero]; rfl
    case hQb8 => exact fun _ _ _ h => h
    case hwb8 => rfl
    case hyb8 => (intro w hSw; (try dsimp only at hSw); go_simp; try rfl)
    simp only [Act.put, List.setIfInBounds_toArray, List.set_cons_zero, List.set_cons_succ]
    refine wpAnyB_take (i := 9) (oi := ?oib9) (v := ?vb9) ?hib9 (by kernel_rfl) (by kernel_rfl) (by kernel_rfl) (by kernel_rfl) (by kernel_rfl) ?hQb9 (Or.inl ⟨?hwb9, ?hyb9⟩) hHeld ?restb9
    case hib9 => simp only [List.getElem?_toArray, List.getElem?_cons_succ, List.getElem?_cons_zero]; rfl
    case hQb9 => exact fun _ _ _ h => h
    case hwb9 => rfl
    case hyb9 => (intro w hSw; (try dsimp only at hSw); go_simp; try rfl)
    simp only [Act.put, List.setIfInBounds_toArray, List.set_cons_zero, List.set_cons_succ]
    refine wpAnyB_take (i := 10) (oi := ?oib10) (v := ?vb10) ?hib10 (by kernel_rfl) (by kernel_rfl) (by kernel_rfl) (by kernel_rfl) (by kernel_rfl) ?hQb10 (Or.inl ⟨?hwb10, ?hyb10⟩) hHeld ?restb10
    case hib10 => simp only [List.getElem?_toArray, List.getElem?_cons_succ, List.getElem?_cons_zero]; rfl
    case hQb10 => exact fun _ _ _ h => h
    case hwb10 => rfl
    case hyb10 => (intro w hSw; (try dsimp only at hSw); go_simp; try rfl)
    simp only [Act.put, List.setIfInBounds_toArray, List.set_cons_zero, List.set_cons_succ]
    refine wpAnyB_take (i := 11) (oi := ?oib11) (v := ?vb11) ?hib11 (by kernel_rfl) (by kernel_rfl) (by kernel_rfl) (by kernel_rfl) (by kernel_rfl) ?hQb11 (Or.inl ⟨?hwb11, ?hyb11⟩) hHeld ?restb11
    case hib11 => simp only [List.getElem?_toArray, List.getElem?_cons_succ, List.getElem?_cons_zero]; rfl
    case hQb11 => exact fun _ _ _ h => h
    case hwb11 => rfl
    case hyb11 => (intro w hSw; (try dsimp only at hSw); go_simp; try rfl)
    simp only [Act.put, List.setIfInBounds_toArray, List.set_cons_zero, List.set_cons_succ]
    refine wpAnyB_take (i := 12) (oi := ?oib12) (v := ?vb12) ?hib12 (by kernel_rfl) (by kernel_rfl) (by kernel_rfl) (by kernel_rfl) (by kernel_rfl) ?hQb12 (Or.inl ⟨?hwb12, ?hyb12⟩) hHeld ?restb12
    case hib12 => simp only [List.getElem?_toArray, List.getElem?_cons_succ, List.getElem?_cons_zero]; rfl
    case hQb12 => exact fun _ _ _ h => h
    case hwb12 => rfl
    case hyb12 => (intro w hSw; (try dsimp only at hSw); go_simp; try rfl)
    simp only [Act.put, List.setIfInBounds_toArray, List.set_cons_zero, List.set_cons_succ]
    refine wpAnyB_one (i := 13) (o := ?oib13) (by kernel_rfl) ?hib13 (fun K hK => ?_)
    case hib13 => simp only [List.getElem?_toArray, List.getElem?_cons_succ, List.getElem?_cons_zero]; rfl
    go_simp
    refine hK.out _ _ (A1.out _ _ rfl).2.2.2.2 (fun hHeld2 => ?_)
    clear hK K
    try simp only [Act.put, List.setIfInBounds_toArray, List.set_cons_zero, List.set_cons_succ]
    clear hHeld2
    refine wpAnyB_one (i := 14) (o := ?oib14) (by kernel_rfl) ?hib14 (fun K hK => ?_)
    case hib14 => simp only [List.getElem?_toArray, List.getElem?_cons_succ, List.getElem?_cons_zero]; rfl
    refine step_append_item it_row (by rfl) _ _ (by rfl) (B := 0) (L := x.L) (y := y) (by rfl) (A1.out _ _ (by rfl)).1 (by rfl) (A1.out _ _ (by rfl)).2.1 hyc.out.symm (by rw [hyc.out]; simp [Value.oneCell']) (by rw [HM.out]; omega) (by omega) ?_
    intro gg cap w3 hown3 hgrow hat hlt
    have HA := A1.out _ _ (show w2.drew.alloc (.cells #[.string (txt y.lab), .bool y.lab.list, .slice o n c] IT) = _ from rfl)
    obtain ⟨st1, st2, st3, st4, st5⟩ := STAY.out _ w3 gg HA.2.2.1 hgrow hat
    have hz3 := HA.2.2.2.1
    have ST2 := Lib.hid st2
    have e0 := (cellH_of (i := 0) (st1 bb (by omega) (.inr (.inl rfl))).1).trans HA.2.2.2.2.1
    have e1 := (cellH_of (i := N) (st1 go (by omega) (.inl rfl)).1).trans HA.2.2.2.2.2.1
    have e2 := (cellH_of (i := 0) (st1 g (by omega) (.inr (.inr (Nat.le_refl _)))).1).trans HA.2.2.2.2.2.2.1
    have e3 := (cellH_of (i := 1) (st1 g (by omega) (.inr (.inr (Nat.le_refl _)))).1).trans HA.2.2.2.2.2.2.2.1
    have e4 := (cellH_of (i := 2) (st1 g (by omega) (.inr (.inr (Nat.le_refl _)))).1).trans HA.2.2.2.2.2.2.2.2
    have hggo : gg ≠ go := (st1 go (by omega) (.inl rfl)).2
    have hfz3 : w3.frozen? ⟨go, N, none⟩ = false := by
      have hvn : (Value.slice ov M cv).ownBlock ≠ some go := fun e => by
        have := (HVB.out go e)
        exact this rfl
      exact (frozenH_of (ST2.out go (by omega) hvn)).trans z0
    have HO3 := Lib.hid hown3
    have H3 := Lib.hid (And.intro st3 (And.intro st4 st5))
    clear st1 st2 st3 st4 st5 HA hgrow hat hz3 hown3
    rw [HM.out] at HO3 ⊢
    refine hK.out _ _ ⟨e0, e1, e2, e3, e4⟩ (fun hHeld3 => ?_)
    clear hK K
    try simp only [Act.put, List.setIfInBounds_toArray, List.set_cons_zero, List.set_cons_succ]
    refine wpAnyB_take (i := 15) (oi := ?oib15) (v := ?vb15) ?hib15 (by kernel_rfl) (by kernel_rfl) (by kernel_rfl) (by kernel_rfl) (by kernel_rfl) ?hQb15 (Or.inl ⟨?hwb15, ?hyb15⟩) hHeld3 ?restb15
    case hib15 => simp only [List.getElem?_toArray, List.getElem?_cons_succ, List.getElem?_cons_zero]; rfl
    case hQb15 => exact fun _ _ _ h => h
    case hwb15 => rfl
    case hyb15 => (intro w hSw; (try dsimp only at hSw); go_simp; try rfl)
    simp only [Act.put, List.setIfInBounds_toArray, List.set_cons_zero, List.set_cons_succ]
    clear hHeld3
    refine wpAnyB_full _ _ _ _ (by kernel_rfl) (wpAny_of_held (S := fun _ => True) _ _ _ _ ?_)
    refine wpAnyH_ready (rs := [16]) (by kernel_rfl) (by simp) ?_
    refine AllReadyH.cons (o := ?oib16) ?hib16 (fun K hK => ?_) AllReadyH.nil
    case hib16 => simp only [List.getElem?_toArray, List.getElem?_cons_succ, List.getElem?_cons_zero]; rfl
    go_simp
    refine hK.out _ _ trivial (fun hHeld4 => ?_)
    clear hK K hHeld4
    try simp only [Act.put, List.setIfInBounds_toArray, List.set_cons_zero, List.set_cons_succ]
    refine wpAnyH_done (by kernel_rfl) ?_ _
    have hF := Lib.hid (HFIN.out (w3.setCell ⟨go, N, none⟩ (.slice (some ⟨gg, 0, none⟩) (M + 1) cap)) gg cap (HO3.out.keep fun b hb => Below.heap_setCell _ _ _ _ (by show b ≠ go; simp [Value.ownBlock] at hb; exact hb ▸ hggo))
      (fun c hc hn hv => (Below.heap_setCell _ _ _ _ hn).trans (ST2.out c (hg ▸ hc) hv)) (by simp only [World.setCell]; simp; have := H3.out.2.1; omega) (hg ▸ H3.out.1)
      (setCell_congr _ _ (ST2.out go (by omega) fun e => HVB.out go e rfl)) H3.out.2.2)
    clear e0 e1 e2 e3 e4 hfz3
    go_end0
    exact ⟨rfl, hF.out⟩
  · have ha := (Below.refl w1.heap.size w1).alloc (Nat.le_refl _) (.cells #[.bool true] 4)
    have hb2 : Below g w (w1.alloc (.cells #[.bool true] 4)).drew := (HB1.out.trans (ha.mono (by omega))).drew
    have hk2 : (w1.alloc (.cells #[.bool true] 4)).drew.heap.size = g + 2 := by show (w1.alloc _).heap.size = g + 2; simp; omega
    have p2 : (w1.alloc (.cells #[.bool true] 4)).drew.cell? ⟨bb, 0, none⟩ = _ := (ha.cell (p := ⟨bb, 0, none⟩) (by show bb < w1.heap.size; omega)).trans p0
    have s2 : (w1.alloc (.cells #[.bool true] 4)).drew.cell? ⟨go, N, none⟩ = _ := (ha.cell (p := ⟨go, N, none⟩) (by show go < w1.heap.size; omega)).trans s0
    have d0 : (w1.alloc (.cells #[.bool true] 4)).drew.cell? ⟨g, 0, none⟩ = _ := (ha.cell (p := ⟨g, 0, none⟩) (by show g < w1.heap.size; omega)).trans b0
    have d1 : (w1.alloc (.cells #[.bool true] 4)).drew.cell? ⟨g, 1, none⟩ = _ := (ha.cell (p := ⟨g, 1, none⟩) (by show g < w1.heap.size; omega)).trans b1
    have d2 : (w1.alloc (.cells #[.bool true] 4)).drew.cell? ⟨g, 2, none⟩ = _ := (ha.cell (p := ⟨g, 2, none⟩) (by show g < w1.heap.size; omega)).trans b2
    generalize (w1.alloc (.cells #[.bool true] 4)).drew = w2 at *
    have HB2 := Lib.hid hb2
    have A1 : Hid (∀ cs W, w2.drew.alloc (.cells cs IT) = W → OwnG itf 3 W 0 IT (.slice ov M cv) x.L ∧ Blk W (g + 2) cs IT ∧ Below g w W ∧ W.heap.size = g + 3 ∧
        (W.cell? ⟨bb, 0, none⟩ = some (.slice (some ⟨go, 0, none⟩) (N + 1) cr) ∧ W.cell? ⟨go, N, none⟩ = some (.slice ov M cv) ∧ W.cell? ⟨g, 0, none⟩ = some (.string (txt y.lab)) ∧ W.cell? ⟨g, 1, none⟩ = some (.bool y.lab.list) ∧ W.cell? ⟨g, 2, none⟩ = some (.slice o n c))) := Lib.hid fun cs W e => by
      subst e
      have ha2 := (Below.refl w2.heap.size w2).drew.alloc (Nat.le_refl _) (.cells cs IT)
      have hb3 : Below g w (w2.drew.alloc (.cells cs IT)) := HB2.out.trans (ha2.mono (by omega))
      have hB := Blk.new w2.drew cs IT
      rw [show w2.drew.heap.size = g + 2 from hk2] at hB
      refine ⟨hown0.out _ hb3, hB, hb3, by show (w2.drew.alloc _).heap.size = g + 3; simp only [World.size_alloc]; show w2.heap.size + 1 = g + 3; omega, ?_, ?_, ?_, ?_, ?_⟩
      · exact (ha2.cell (p := ⟨bb, 0, none⟩) (by show bb < w2.heap.size; omega)).trans p2
      · exact (ha2.cell (p := ⟨go, N, none⟩) (by show go < w2.heap.size; omega)).trans s2
      · exact (ha2.cell (p := ⟨g, 0, none⟩) (by show g < w2.heap.size; omega)).trans d0
      · exact (ha2.cell (p := ⟨g, 1, none⟩) (by show g < w2.heap.size; omega)).trans d1
      · exact (ha2.cell (p := ⟨g, 2, none⟩) (by show g < w2.heap.size; omega)).trans d2
    clear ha p0 s0 b0 b1 b2 HBK HB1 hb2 hsz1
    go_upto_region 3 with fail
    refine wp_region_bar (S := (fun W' => W'.cell? ⟨bb, 0, none⟩ = some (.slice (some ⟨go, 0, none⟩) (N + 1) cr) ∧ W'.cell? ⟨go, N, none⟩ = some (.slice ov M cv) ∧ W'.cell? ⟨g, 0, none⟩ = some (.string (txt y.lab)) ∧ W'.cell? ⟨g, 1, none⟩ = some (.bool y.lab.list) ∧ W'.cell? ⟨g, 2, none⟩ = some (.slice o n c))) 12 (by kernel_rfl) ⟨p2, s2, d0, d1, d2⟩ (fun hHeld => ?_)
    refine wpAnyB_take (i := 0) (oi := ?oia0) (v := ?va0) ?hia0 (by kernel_rfl) (by kernel_rfl) (by kernel_rfl) (by kernel_rfl) (by kernel_rfl) ?hQa0 (Or.inl ⟨?hwa0, ?hya0⟩) hHeld ?resta0
    case hia0 => simp only [List.getElem?_toArray, List.getElem?_cons_succ, List.getElem?_cons_zero]; rfl
    case hQa0 => exact fun _ _ _ h => h
    case hwa0 => rfl
    case hya0 => (intro w hSw; (try dsimp only at hSw); go_simp; try rfl)
    simp only [Act.put, List.setIfInBounds_toArray, List.set_cons_zero, List.set_cons_succ]
    refine wpAnyB_take (i := 1) (oi := ?oia1) (v := ?va1) ?hia1 (by kernel_rfl) (by kernel_rfl) (by kernel_rfl) (by kernel_rfl) (by kernel_rfl) ?hQa1 (Or.inl ⟨?hwa1, ?hya1⟩) hHeld ?resta1
    case hia1 => simp only [List.getElem?_toArray, List.getElem?_cons_succ, List.getElem?_cons_zero]; rfl
    case hQa1 => exact fun _ _ _ h => h
    case hwa1 => rfl
    case hya1 => (intro w hSw; (try dsimp only at hSw); go_simp; try rfl)
    simp only [Act.put, List.setIfInBounds_toArray, List.set_cons_zero, List.set_cons_succ]
    refine wpAnyB_take (i := 2) (oi := ?oia2) (v := ?va2) ?hia2 (by kernel_rfl) (by kernel_rfl) (by kernel_rfl) (by kernel_rfl) (by kernel_rfl) ?hQa2 (Or.inl ⟨?hwa2, ?hya2⟩) hHeld ?resta2
    case hia2 => simp only [List.getElem?_toArray, List.getElem?_cons_succ, List.getElem?_cons_zero]; rfl
    case hQa2 => exact fun _ _ _ h => h
    case hwa2 => rfl
    case hya2 => (intro w hSw; (try dsimp only at hSw); go_simp; try rfl)
    simp only [Act.put, List.setIfInBounds_toArray, List.set_cons_zero, List.set_cons_succ]
    refine wpAnyB_take (i := 3) (oi := ?oia3) (v := ?va3) ?hia3 (by kernel_rfl) (by kernel_rfl) (by kernel_rfl) (by kernel_rfl) (by kernel_rfl) ?hQa3 (Or.inl ⟨?hwa3, ?hya3⟩) hHeld ?resta3
    case hia3 => simp only [List.getElem?_toArray, List.getElem?_cons_succ, List.getElem?_cons_zero]; rfl
    case hQa3 => exact fun _ _ _ h => h
    case hwa3 => rfl
    case hya3 => (intro w hSw; (try dsimp only at hSw); go_simp; try rfl)
    simp only [Act.put, List.setIfInBounds_toArray, List.set_cons_zero, List.set_cons_succ]
    refine wpAnyB_take (i := 4) (oi := ?oia4) (v := ?va4) ?hia4 (by kernel_rfl) (by kernel_rfl) (by kernel_rfl) (by kernel_rfl) (by kernel_rfl) ?hQa4 (Or.inl ⟨?hwa4, ?hya4⟩) hHeld ?resta4
    case hia4 => simp only [List.getElem?_toArray, List.getElem?_cons_succ, List.getElem?_cons_zero]; rfl
    case hQa4 => exact fun _ _ _ h => h
    case hwa4 => rfl
    case hya4 => (intro w hSw; (try dsimp only at hSw); go_simp; try rfl)
    simp only [Act.put, List.setIfInBounds_toArray, List.set_cons_zero, List.set_cons_succ]
    refine wpAnyB_take (i := 5) (oi := ?oia5) (v := ?va5) ?hia5 (by kernel_rfl) (by kernel_rfl) (by kernel_rfl) (by kernel_rfl) (by kernel_rfl) ?hQa5 (Or.inl ⟨?hwa5, ?hya5⟩) hHeld ?resta5
    case hia5 => simp only [List.getElem?_toArray, List.getElem?_cons_succ, List.getElem?_cons_zero]; rfl
    case hQa5 => exact fun _ _ _ h => h
    case hwa5 => rfl
    case hya5 => (intro w hSw; (try dsimp only at hSw); go_simp; try rfl)
    simp only [Act.put, List.setIfInBounds_toArray, List.set_cons_zero, List.set_cons_succ]
    refine wpAnyB_take (i := 6) (oi := ?oia6) (v := ?va6) ?hia6 (by kernel_rfl) (by kernel_rfl) (by kernel_rfl) (by kernel_rfl) (by kernel_rfl) ?hQa6 (Or.inl ⟨?hwa6, ?hya6⟩) hHeld ?resta6
    case hia6 => simp only [List.getElem?_toArray, List.getElem?_cons_succ, List.getElem?_cons_zero]; rfl
    case hQa6 => exact fun _ _ _ h => h
    case hwa6 => rfl
    case hya6 => (intro w hSw; (try dsimp only at hSw); go_simp; try rfl)
    simp only [Act.put, List.setIfInBounds_toArray, List.set_cons_zero, List.set_cons_succ]
    refine wpAnyB_take (i := 7) (oi := ?oia7) (v := ?va7) ?hia7 (by kernel_rfl) (by kernel_rfl) (by kernel_rfl) (by kernel_rfl) (by kernel_rfl) ?hQa7 (Or.inl ⟨?hwa7, ?hya7⟩) hHeld ?resta7
    case hia7 => simp only [List.getElem?_toArray, List.getElem?_cons_succ, List.getElem?_cons_zero]; rfl
    case hQa7 => exact fun _ _ _ h => h
    case hwa7 => rfl
    case hya7 => (intro w hSw; (try dsimp only at hSw); go_simp; try rfl)
    simp only [Act.put, List.setIfInBounds_toArray, List.set_cons_zero, List.set_cons_succ]
    refine wpAnyB_take (i := 8) (oi := ?oia8) (v := ?va8) ?hia8 (by kernel_rfl) (by kernel_rfl) (by kernel_rfl) (by kernel_rfl) (by kernel_rfl) ?hQa8 (Or.inl ⟨?hwa8, ?hya8⟩) hHeld ?resta8
    case hia8 => simp only [List.getElem?_toArray, List.getElem?_cons_succ, List.getElem?_cons_zero]; rfl
    case hQa8 => exact fun _ _ _ h => h
    case hwa8 => rfl
    case hya8 => (intro w hSw; (try dsimp only at hSw); go_simp; try rfl)
    simp only [Act.put, List.setIfInBounds_toArray, List.set_cons_zero, List.set_cons_succ]
    refine wpAnyB_one (i := 9) (o := ?oia9) (by kernel_rfl) ?hia9 (fun K hK => ?_)
    case hia9 => simp only [List.getElem?_toArray, List.getElem?_cons_succ, List.getElem?_cons_zero]; rfl
    go_simp
    refine hK.out _ _ (A1.out _ _ rfl).2.2.2.2 (fun hHeld2 => ?_)
    clear hK K
    try simp only [Act.put, List.setIfInBounds_toArray, List.set_cons_zero, List.set_cons_succ]
    clear hHeld2
    refine wpAnyB_one (i := 10) (o := ?oia10) (by kernel_rfl) ?hia10 (fun K hK => ?_)
    case hia10 => simp only [List.getElem?_toArray, List.getElem?_cons_succ, List.getElem?_cons_zero]; rfl
    refine step_append_item it_row (by rfl) _ _ (by rfl) (B := 0) (L := x.L) (y := zelt) (by rfl) (A1.out _ _ (by rfl)).1 (by rfl) (A1.out _ _ (by rfl)).2.1 rfl (by decide) (by rw [HM.out]; omega) (by omega) ?_
    intro gg cap w3 hown3 hgrow hat hlt
    have HA := A1.out _ _ (show w2.drew.alloc (.cells #[.string ⟨#[]⟩, .bool false, .slice none 0 0] IT) = _ from rfl)
    obtain ⟨st1, st2, st3, st4, st5⟩ := STAY.out _ w3 gg HA.2.2.1 hgrow hat
    have hz3 := HA.2.2.2.1
    have ST2 := Lib.hid st2
    have e0 := (cellH_of (i := 0) (st1 bb (by omega) (.inr (.inl rfl))).1).trans HA.2.2.2.2.1
    have e1 := (cellH_of (i := N) (st1 go (by omega) (.inl rfl)).1).trans HA.2.2.2.2.2.1
    have e2 := (cellH_of (i := 0) (st1 g (by omega) (.inr (.inr (Nat.le_refl _)))).1).trans HA.2.2.2.2.2.2.1
    have e3 := (cellH_of (i := 1) (st1 g (by omega) (.inr (.inr (Nat.le_refl _)))).1).trans HA.2.2.2.2.2.2.2.1
    have e4 := (cellH_of (i := 2) (st1 g (by omega) (.inr (.inr (Nat.le_refl _)))).1).trans HA.2.2.2.2.2.2.2.2
    have hggo : gg ≠ go := (st1 go (by omega) (.inl rfl)).2
    have hfz3 : w3.frozen? ⟨go, N, none⟩ = false := by
      have hvn : (Value.slice ov M cv).ownBlock ≠ some go := fun e => by
        have := (HVB.out go e)
        exact this rfl
      exact (frozenH_of (ST2.out go (by omega) hvn)).trans z0
    have HO3 := Lib.hid hown3
    have H3 := Lib.hid (And.intro st3 (And.intro st4 st5))
    clear st1 st2 st3 st4 st5 HA hgrow hat hz3 hown3
    rw [HM.out] at HO3 ⊢
    refine hK.out _ _ ⟨e0, e1, e2, e3, e4⟩ (fun hHeld3 => ?_)
    clear hK K
    try simp only [Act.put, List.setIfInBounds_toArray, List.set_cons_zero, List.set_cons_succ]
    refine wpAnyB_take (i := 11) (oi := ?oia11) (v := ?va11) ?hia11 (by kernel_rfl) (by kernel_rfl) (by kernel_rfl) (by kernel_rfl) (by kernel_rfl) ?hQa11 (Or.inl ⟨?hwa11, ?hya11⟩) hHeld3 ?resta11
    case hia11 => simp only [List.getElem?_toArray, List.getElem?_cons_succ, List.getElem?_cons_zero]; rfl
    case hQa11 => exact fun _ _ _ h => h
    case hwa11 => rfl
    case hya11 => (intro w hSw; (try dsimp only at hSw); go_simp; try rfl)
    simp only [Act.put, List.setIfInBounds_toArray, List.set_cons_zero, List.set_cons_succ]
    clear hHeld3
    refine wpAnyB_full _ _ _ _ (by kernel_rfl) (wpAny_of_held (S := fun _ => True) _ _ _ _ ?_)
    refine wpAnyH_ready (rs := [12]) (by kernel_rfl) (by simp) ?_
    refine AllReadyH.cons (o := ?oia12) ?hia12 (fun K hK => ?_) AllReadyH.nil
    case hia12 => simp only [List.getElem?_toArray, List.getElem?_cons_succ, List.getElem?_cons_zero]; rfl
    go_simp
    refine hK.out _ _ trivial (fun hHeld4 => ?_)
    clear hK K hHeld4
    try simp only [Act.put, List.setIfInBounds_toArray, List.set_cons_zero, List.set_cons_succ]
    refine wpAnyH_done (by kernel_rfl) ?_ _
    obtain ⟨gg', he', _, _, hln, hcap2, hcl, hfr⟩ := OwnG.at_ HO3.out itf_len (i := M) (y := zelt) (by rw [← HM.out]; simp)
    cases he'
    clear hln
    have hng : go ≠ gg := Ne.symm hggo
    have k0 := (cellH_of (i := M * 3) (Below.heap_setCell w3 ⟨go, N, none⟩ (.slice (some ⟨gg, 0, none⟩) (M + 1) cap) gg hggo)).trans (hcl 0 (by decide))
    have k1 := (cellH_of (i := M * 3 + 1) (Below.heap_setCell w3 ⟨go, N, none⟩ (.slice (some ⟨gg, 0, none⟩) (M + 1) cap) gg hggo)).trans (hcl 1 (by decide))
    have k2 := (cellH_of (i := M * 3 + 2) (Below.heap_setCell w3 ⟨go, N, none⟩ (.slice (some ⟨gg, 0, none⟩) (M + 1) cap) gg hggo)).trans (hcl 2 (by decide))
    have j0 := (frozenH_of (i := M * 3) (Below.heap_setCell w3 ⟨go, N, none⟩ (.slice (some ⟨gg, 0, none⟩) (M + 1) cap) gg hggo)).trans (hfr _)
    have j1 := (frozenH_of (i := M * 3 + 1) (Below.heap_setCell w3 ⟨go, N, none⟩ (.slice (some ⟨gg, 0, none⟩) (M + 1) cap) gg hggo)).trans (hfr _)
    have j2 := (frozenH_of (i := M * 3 + 2) (Below.heap_setCell w3 ⟨go, N, none⟩ (.slice (some ⟨gg, 0, none⟩) (M + 1) cap) gg hggo)).trans (hfr _)
    simp only [itf, zelt, txt, List.getElem?_cons_zero, List.getElem?_cons_succ] at k0 k1 k2
    have hrw := HO3.out.keep (w' := w3.setCell ⟨go, N, none⟩ (.slice (some ⟨gg, 0, none⟩) (M + 1) cap)) fun b hb => Below.heap_setCell _ _ _ _ (by show b ≠ go; simp [Value.ownBlock] at hb; exact hb ▸ hggo)
    have hrw2 : OwnG itf 3 (put3 (w3.setCell ⟨go, N, none⟩ (.slice (some ⟨gg, 0, none⟩) (M + 1) cap)) gg (M * 3) (.string (txt y.lab)) (.bool y.lab.list) (.slice o n c)) 0 IT (.slice (some ⟨gg, 0, none⟩) (M + 1) cap) (x.L ++ [y]) := by
      rw [← HM.out] at hrw ⊢
      have := OwnG.put3 (x := y) hrw
      rw [HU.out] at this
      exact this
    have hF := Lib.hid (HFIN.out (put3 (w3.setCell ⟨go, N, none⟩ (.slice (some ⟨gg, 0, none⟩) (M + 1) cap)) gg (M * 3) (.string (txt y.lab)) (.bool y.lab.list) (.slice o n c)) gg cap hrw2
      (fun c hc hn hv => (put3_heap c (by rintro rfl; rcases H3.out.1 with e | e; exact hv e; omega)).trans ((Below.heap_setCell _ _ _ _ hn).trans (ST2.out c (hg ▸ hc) hv))) (by rw [put3_size]; simp only [World.setCell]; simp; have := H3.out.2.1; omega) (hg ▸ H3.out.1)
      ((put3_heap go hng).trans (setCell_congr _ _ (ST2.out go (by omega) fun e => HVB.out go e rfl))) H3.out.2.2)
    clear e0 e1 e2 e3 e4 hfz3 hcl hfr hrw hrw2
    go_wp2_with fail
    go_end0
    rw [put3_eq]
    exact ⟨rfl, hF.out⟩
end Go.Proofs.Ytopfpfpefljkkaa

/- walk.builder: begin, step. -/
namespace Go.Proofs.Ytopfpfpefljkkaa
open Go.RowKit
set_option linter.unusedVariables false
set_option linter.unusedSimpArgs false

def rowsOf (st : List Fr) : List (List (Rose IL)) := st.map fun x => x.L.map Elt.tree
theorem rowsOf_cons (x : Fr) (xs : List Fr) : rowsOf (x :: xs) = x.L.map Elt.tree :: rowsOf xs := rfl
theorem rowsOf_length (st : List Fr) : (rowsOf st).length = st.length := List.length_map _

set_option maxRecDepth 100000 in
set_option maxHeartbeats 2000000 in
theorem build_begin (x : Fr) (xs : List Fr) (w : World) (B bb : Nat) (vr : Value) (left : Nat) (h : BldAt w B bb vr left (x :: xs)) (hn : xs.length ≤ 100) (hl : x.L.length ≤ 100000) (hleft : left ≤ 1024) :
    Calls Try.prog 59 #[.pointer (some ⟨bb, 0, none⟩)] w
      fun e w' => e = .returned (.bool (beginB (rowsOf (x :: xs)) left)) ∧ w' = if beginB (rowsOf (x :: xs)) left then w.setCell ⟨bb, 1, none⟩ (.int .i64 ((left - 1 : Nat) : Int)) else w := by
  obtain ⟨BG, hBG⟩ : ∃ b, beginB (rowsOf (x :: xs)) left = b := ⟨_, rfl⟩
  have hbg := hBG
  rw [hBG]
  unfold beginB at hbg
  simp only [rowsOf_length, rowsOf_cons, List.headD_cons, List.length_map, List.length_cons] at hbg
  obtain ⟨oa, cr, hvr⟩ := h.row.slice
  have hrl : (x :: xs).reverse.length = xs.length + 1 := by simp
  rw [hrl] at hvr
  subst hvr
  obtain ⟨N, hN⟩ : ∃ N, xs.length = N := ⟨_, rfl⟩
  have o0 : w.cell? ⟨bb, 0, none⟩ = some (.slice oa (xs.length + 1) cr) := h.ho.cell 0
  have o1 : w.cell? ⟨bb, 1, none⟩ = some (.int .i64 left) := h.ho.cell 1
  have z1 := h.ho.free 1
  rw [hN] at o0 hn
  simp only [hN] at hbg
  rcases Nat.eq_zero_or_pos left with h0 | h0
  · subst h0
    simp at hbg
    subst hbg
    clear h hN hrl hBG
    go_enter Try.func59, Try.ntmps59
    go_wp2_with fail
    go_returns
    simp
  · by_cases h16 : 16 < N + 1
    · have : BG = false := by rw [← hbg]; simp; omega
      subst this
      have hl0 : ((left : Int) == 0) = false := by simp; omega
      clear h hN hrl hBG hbg
      go_enter Try.func59, Try.ntmps59
      go_wp2_with fail
      go_returns
      simp
    · have hl0 : ((left : Int) == 0) = false := by simp; omega
      rcases Nat.eq_zero_or_pos N with hN0 | hN0
      · subst hN0
        have hxs : xs = [] := List.length_eq_zero_iff.1 hN
        subst hxs
        obtain ⟨g0, rfl, _, _, _, _, hcell, _⟩ := OwnG.at_ h.row rf1_len (i := 0) (y := x) (by simp)
        have r0 : w.cell? ⟨g0, 0, none⟩ = some x.v := hcell 0 (by decide)
        obtain ⟨ov, cv, hv⟩ : ∃ ov cv, x.v = .slice ov x.L.length cv := by
          obtain ⟨Q, _, h1, _⟩ := h.lev
          exact h1.slice
        rw [hv] at r0
        obtain ⟨M, hM⟩ : ∃ M, x.L.length = M := ⟨_, rfl⟩
        rw [hM] at r0 hl
        simp only [hM] at hbg
        rcases Nat.eq_zero_or_pos M with hM0 | hM0
        · subst hM0
          have : BG = true := by rw [← hbg]; simp; omega
          subst this
          have hcast : ((left - 1 : Nat) : Int) = (left : Int) - 1 := by omega
          rw [hcast]
          clear h hcell hN hrl hBG hbg hM hv
          go_enter Try.func59, Try.ntmps59
          go_wp2_with fail
          go_returns
          simp
        · have : BG = false := by rw [← hbg]; simp; omega
          subst this
          clear h hcell hN hrl hBG hbg hM hv
          go_enter Try.func59, Try.ntmps59
          go_wp2_with fail
          go_returns
          simp
      · have : BG = true := by rw [← hbg]; simp; omega
        subst this
        have hcast : ((left - 1 : Nat) : Int) = (left : Int) - 1 := by omega
        have hN1 : (((N : Int) + 1) == 1) = false := by simp; omega
        rw [hcast]
        clear h hN hrl hBG hbg
        go_enter Try.func59, Try.ntmps59
        go_wp2_with fail
        go_returns
        simp

/-- What a step leaves. -/
def StepPost (t : Tk) (st : List Fr) (left B bb : Nat) (w : World) (e : Ending) (w' : World) : Prop := match stepB t (rowsOf st) left with
  | none => e = .returned (.bool false) ∧ Below B w w'
  | some y => e = .returned (.bool true) ∧ ∃ vr' st', BldAt w' B bb vr' y.2 st' ∧ rowsOf st' = y.1 ∧ Below B w w'
theorem step_no {t : Tk} {st : List Fr} {left B bb : Nat} {w w' : World} (h : stepB t (rowsOf st) left = none) (hb : Below B w w') : StepPost t st left B bb w (.returned (.bool false)) w' := by
  unfold StepPost; rw [h]; exact ⟨rfl, hb⟩
theorem step_yes {t : Tk} {st : List Fr} {left B bb : Nat} {w w' : World} {y : List (List (Rose IL)) × Nat} (h : stepB t (rowsOf st) left = some y) {vr' : Value} {st' : List Fr} (h1 : BldAt w' B bb vr' y.2 st') (h2 : rowsOf st' = y.1) (hb : Below B w w') : StepPost t st left B bb w (.returned (.bool true)) w' := by
  unfold StepPost; rw [h]; exact ⟨rfl, vr', st', h1, h2, hb⟩
theorem lev_no {w : World} {av : Nat → Prop} {st : List Fr} (h : Levs w av st) : Levs w (fun c => av c ∨ (fun _ => False) c) st := h.keep (Nat.le_refl _) (fun _ _ _ => rfl) fun c _ hn => hn.elim id fun h => h.elim

set_option maxRecDepth 100000 in
set_option maxHeartbeats 4000000 in
theorem build_step_bad (t : Tk) (x : Fr) (xs : List Fr) (w : World) (B bb : Nat) (vr : Value) (left : Nat) (h : BldAt w B bb vr left (x :: xs)) (hs : stepB t (rowsOf (x :: xs)) left = none) (hk : t.kind ≠ 3 ∧ t.text.size ≠ 0 ∨ t.text.size = 0 ∧ t.kind ≠ 1 ∧ t.kind ≠ 2 ∧ t.kind ≠ 3) :
    Calls Try.prog 47 #[.pointer (some ⟨bb, 0, none⟩), .agg #[.int .i64 t.kind, .string t.text]] w (StepPost t (x :: xs) left B bb w) := by
  have hBs : B ≤ w.heap.size := Nat.le_of_lt (Nat.lt_of_le_of_lt h.hbo h.ho.lt)
  have HF := Lib.hid (step_no (bb := bb) hs ((Below.refl B w).alloc hBs (.cells #[.int .i64 t.kind, .string t.text] TT)))
  obtain ⟨POST, hP⟩ : ∃ P0, StepPost t (x :: xs) left B bb w = P0 := ⟨_, rfl⟩
  have HP := Lib.hid hP
  rw [hP] at HF ⊢
  obtain ⟨kk, tt⟩ := t
  dsimp only at hk HF ⊢
  clear h hs hP HP
  rcases hk with ⟨h3, hz⟩ | ⟨hz, h1, h2, h3⟩
  · have e3 : (kk != 3) = true := by simp [h3]
    have e0 := str_nil tt
    rw [decide_eq_false hz] at e0
    clear h3 hz
    go_enter Try.func47, Try.ntmps47
    go_wp2_with fail
    exact HF.out
  · obtain rfl := bytes_nil hz
    have e1 : (kk == 1) = false := by simp [h1]
    have e2 : (kk == 2) = false := by simp [h2]
    have e3 : (kk == 3) = false := by simp [h3]
    have e4 : (kk != 3) = true := by simp [h3]
    clear h1 h2 h3 hz
    go_enter Try.func47, Try.ntmps47
    go_wp2_with fail
    exact HF.out

set_option maxRecDepth 100000 in
set_option maxHeartbeats 4000000 in
theorem build_step_word (tt : ByteArray) (x : Fr) (xs : List Fr) (w : World) (B bb : Nat) (vr : Value) (left : Nat) (h : BldAt w B bb vr left (x :: xs)) (hn : xs.length ≤ 100) (hl : x.L.length ≤ 100000) (hleft : left ≤ 1024) (htt : tt.size ≤ maxLen) :
    Calls Try.prog 47 #[.pointer (some ⟨bb, 0, none⟩), .agg #[.int .i64 3, .string tt]] w (StepPost ⟨3, tt⟩ (x :: xs) left B bb w) := by
  have hBs : B ≤ w.heap.size := Nat.le_of_lt (Nat.lt_of_le_of_lt h.hbo h.ho.lt)
  have hstep : stepB ⟨3, tt⟩ (rowsOf (x :: xs)) left = if beginB (rowsOf (x :: xs)) left then some ((x.L.map Elt.tree ++ [.node ⟨tt.data.toList, false⟩ []]) :: rowsOf xs, left - 1) else none := by
    simp only [rowsOf_cons, stepB]; simp; rfl
  have hb1 := (Below.refl w.heap.size w).alloc (Nat.le_refl _) (.cells #[.int .i64 3, .string tt] TT)
  have hbk := Blk.new w #[.int .i64 3, .string tt] TT
  have h1 := h.fut hb1
  have HB1 := Lib.hid (hb1.mono hBs)
  have CB := Lib.hid (build_begin x xs _ B bb vr left h1 hn hl hleft)
  obtain ⟨BG, hBG⟩ : ∃ b, beginB (rowsOf (x :: xs)) left = b := ⟨_, rfl⟩
  rw [hBG] at CB hstep
  have hgs : (w.alloc (.cells #[.int .i64 3, .string tt] TT)).heap.size = w.heap.size + 1 := by simp
  obtain ⟨POST, hP⟩ : ∃ P0, StepPost ⟨3, tt⟩ (x :: xs) left B bb w = P0 := ⟨_, rfl⟩
  have HP := Lib.hid hP
  have HS := Lib.hid hstep
  have H1 := Lib.hid h1
  have HBK := Lib.hid hbk
  obtain ⟨g, hg⟩ : ∃ g, w.heap.size = g := ⟨_, rfl⟩
  have hbg : bb < g := hg ▸ h.ho.lt
  rw [hP]
  rw [hg] at HBK hgs
  clear hb1 hbk h1 hstep hP h
  go_enter Try.func47, Try.ntmps47
  go_upto_region 6 with fail
  generalize w.alloc (.cells #[.int .i64 3, .string tt] TT) = w1 at *
  cases BG with
  | false =>
    go_wp2_with fail
    refine CB.out.mono ?_
    rintro e w2 ⟨rfl, rfl⟩
    have HF := Lib.hid (step_no (bb := bb) (by rw [HS.out]; simp) HB1.out)
    simp only [Bool.false_eq_true, if_false]
    rw [HP.out] at HF
    go_wp2_with fail
    exact HF.out
  | true =>
    go_wp2_with fail
    refine CB.out.mono ?_
    rintro e w2 ⟨rfl, hw2⟩
    simp only [↓reduceIte] at hw2
    obtain ⟨h2, hb2⟩ := bld_left (l2 := left - 1) H1.out
    rw [← hw2] at h2 hb2
    have d1 : w2.cell? ⟨g, 1, none⟩ = some (.string tt) := by
      rw [hw2, World.cell?_setCell_far _ _ _ _ (by show bb ≠ g; omega)]; exact HBK.out.cell 1
    have CA := Lib.hid (build_add x xs w2 B bb vr (left - 1) ⟨⟨tt.data.toList, false⟩, .slice none 0 0, []⟩ (fun _ => False) h2 hn hl (subs_nil _ _) (fun c hc => hc.elim) (lev_no h2.lev) (by rw [← txt_size ⟨tt.data.toList, false⟩, txt_of]; exact htt))
    simp only [txt_of] at CA
    have HB2 := Lib.hid (HB1.out.trans hb2)
    clear h2 hb2 hw2
    go_wp2_with fail
    refine CA.out.mono ?_
    rintro e w3 ⟨rfl, v', h3, hb3⟩
    have hst : stepB ⟨3, tt⟩ (rowsOf (x :: xs)) left = some ((x.L.map Elt.tree ++ [.node ⟨tt.data.toList, false⟩ []]) :: rowsOf xs, left - 1) := by rw [HS.out]; rfl
    have HF := Lib.hid (step_yes (bb := bb) hst h3 (by simp [rowsOf, Elt.tree]) (HB2.out.trans hb3))
    rw [HP.out] at HF
    clear h3 hb3
    go_wp2_with fail
    exact HF.out

/-- A row's place to be stored to, behind its growth. -/
theorem bld_open {w w1 w2 : World} {B bb left : Nat} {vr : Value} {st : List Fr} (h : BldAt w B bb vr left st) (hw : Below w.heap.size w w1) (hg : w1.grownBy w2 vr.ownBlock) : w2.cell? ⟨bb, 0, none⟩ = some vr ∧ w2.frozen? ⟨bb, 0, none⟩ = false := by
  have hb1 := Below.blk hw h.ho h.ho.lt
  have hb2 : Blk w2 bb #[vr, .int .i64 left] BDT := by
    unfold Blk
    rw [hg.block bb hb1.lt fun e => h.nbo e.symm]; exact hb1
  exact ⟨hb2.cell 0, hb2.free 0⟩

set_option maxRecDepth 100000 in
set_option maxHeartbeats 4000000 in
theorem build_step_open (x : Fr) (xs : List Fr) (w : World) (B bb : Nat) (vr : Value) (left : Nat) (h : BldAt w B bb vr left (x :: xs)) (hn : xs.length ≤ 100) (hl : x.L.length ≤ 100000) (hleft : left ≤ 1024) :
    Calls Try.prog 47 #[.pointer (some ⟨bb, 0, none⟩), .agg #[.int .i64 1, .string ⟨#[]⟩]] w (StepPost tOpen (x :: xs) left B bb w) := by
  have hBs : B ≤ w.heap.size := Nat.le_of_lt (Nat.lt_of_le_of_lt h.hbo h.ho.lt)
  have hstep : stepB tOpen (rowsOf (x :: xs)) left = if beginB (rowsOf (x :: xs)) left then some ([] :: rowsOf (x :: xs), left - 1) else none := by
    rw [rowsOf_cons, stepB_open]
  have hb1 := (Below.refl w.heap.size w).alloc (Nat.le_refl _) (.cells #[.int .i64 1, .string ⟨#[]⟩] TT)
  have h1 := h.fut hb1
  have HB1 := Lib.hid (hb1.mono hBs)
  have CB := Lib.hid (build_begin x xs _ B bb vr left h1 hn hl hleft)
  obtain ⟨BG, hBG⟩ : ∃ b, beginB (rowsOf (x :: xs)) left = b := ⟨_, rfl⟩
  rw [hBG] at CB hstep
  have hgs : (w.alloc (.cells #[.int .i64 1, .string ⟨#[]⟩] TT)).heap.size = w.heap.size + 1 := by simp
  obtain ⟨POST, hP⟩ : ∃ P0, StepPost tOpen (x :: xs) left B bb w = P0 := ⟨_, rfl⟩
  have HP := Lib.hid hP
  have HS := Lib.hid hstep
  have H1 := Lib.hid h1
  rw [hP]
  clear hb1 h1 hstep hP h
  go_enter Try.func47, Try.ntmps47
  go_upto_region 10 with fail
  generalize w.alloc (.cells #[.int .i64 1, .string ⟨#[]⟩] TT) = w1 at *
  cases BG with
  | false =>
    go_wp2_with fail
    refine CB.out.mono ?_
    rintro e w2 ⟨rfl, rfl⟩
    have HF := Lib.hid (step_no (bb := bb) (by rw [HS.out]; simp) HB1.out)
    simp only [Bool.false_eq_true, if_false]
    rw [HP.out] at HF
    go_wp2_with fail
    exact HF.out
  | true =>
    go_wp2_with fail
    refine CB.out.mono ?_
    rintro e w2 ⟨rfl, hw2⟩
    simp only [↓reduceIte] at hw2
    obtain ⟨h2, hb2⟩ := bld_left (l2 := left - 1) H1.out
    rw [← hw2] at h2 hb2
    have HB2 := Lib.hid (HB1.out.trans hb2)
    have c0 := h2.ho.cell 0
    have hst : stepB tOpen (rowsOf (x :: xs)) left = some ([] :: rowsOf (x :: xs), left - 1) := by rw [HS.out]; rfl
    have HST := Lib.hid hst
    have hBw2 : B ≤ w2.heap.size := by have := HB2.out.size; omega
    have H2 := Lib.hid h2
    obtain ⟨oa, cr, hvr⟩ := h2.row.slice
    have hrl : (x :: xs).reverse.length = xs.length + 1 := by simp
    obtain ⟨N, hN⟩ : ∃ N, xs.length = N := ⟨_, rfl⟩
    rw [hrl, hN] at hvr
    subst hvr
    have hal := (Below.refl w2.heap.size w2).alloc (Nat.le_refl _) (.cells #[.slice none 0 0] ST)
    have HO := Lib.hid (h2.row.below hal)
    have HAL := Lib.hid hal
    have HNB := Lib.hid (Blk.new w2 #[.slice none 0 0] ST)
    have hB3 : B ≤ (w2.alloc (.cells #[.slice none 0 0] ST)).heap.size := by simp; omega
    have HRL : Hid ((x :: xs).reverse.length = N + 1) := Lib.hid (by rw [hrl, hN])
    have HRL2 : Hid ((x :: xs).length = N + 1) := Lib.hid (by simp [hN])
    rw [hN] at hn
    clear h2 hb2 hw2 hst hrl hN hal
    go_wp2_with (at_builtin; refine wpList_append_g (y := (⟨.slice none 0 0, [], 0⟩ : Fr)) st_row rf1_len rfl (.tmp 36) (.tmp 37) rfl rfl HO.out rfl HNB.out rfl (by simp [rf1, Value.oneCell']) (by rw [HRL.out]; omega) hB3 ?_; intro g2 c2 w3 q1 q2 q3 q4; rw [HRL.out] at q1 ⊢; obtain ⟨k0, z0⟩ := bld_open H2.out HAL.out q2; have HQ := Lib.hid (And.intro q1 (And.intro q2 q3)); clear q1 q2 q3 q4)
    obtain ⟨h4, hb4⟩ := bld_push (g := g2) (cap := c2) H2.out (by rw [HRL2.out]; exact HQ.out.1) HAL.out HQ.out.2.1 HQ.out.2.2
    rw [HRL2.out] at h4 hb4
    have HF := step_yes (bb := bb) HST.out h4 rfl (HB2.out.trans hb4)
    rw [HP.out] at HF
    exact HF

set_option maxRecDepth 100000 in
set_option maxHeartbeats 4000000 in
theorem build_step_shut (x : Fr) (xs : List Fr) (w : World) (B bb : Nat) (vr : Value) (left : Nat) (h : BldAt w B bb vr left (x :: xs)) (hn : xs.length ≤ 100) (hl : ∀ z, z ∈ x :: xs → z.L.length ≤ 100000) :
    Calls Try.prog 47 #[.pointer (some ⟨bb, 0, none⟩), .agg #[.int .i64 2, .string ⟨#[]⟩]] w (StepPost tShut (x :: xs) left B bb w) := by
  have hBs : B ≤ w.heap.size := Nat.le_of_lt (Nat.lt_of_le_of_lt h.hbo h.ho.lt)
  have hb1 := (Below.refl w.heap.size w).alloc (Nat.le_refl _) (.cells #[.int .i64 2, .string ⟨#[]⟩] TT)
  have h1 := h.fut hb1
  have HB1 := Lib.hid (hb1.mono hBs)
  obtain ⟨POST, hP⟩ : ∃ P0, StepPost tShut (x :: xs) left B bb w = P0 := ⟨_, rfl⟩
  have HP := Lib.hid hP
  have HS := Lib.hid (stepB_shut (x.L.map Elt.tree) (rowsOf xs) left)
  have H1 := Lib.hid h1
  obtain ⟨oa, cr, hvr⟩ := h1.row.slice
  have hrl : (x :: xs).reverse.length = xs.length + 1 := by simp
  rw [hrl] at hvr
  subst hvr
  have o0 := h1.ho.cell 0
  have z0 := h1.ho.free 0
  obtain ⟨N, hN⟩ : ∃ N, xs.length = N := ⟨_, rfl⟩
  obtain ⟨go, rfl, hBgo, hgolt, _, hcap, hcell, hfz⟩ := OwnG.at_ h1.row rf1_len (i := xs.length) (y := x) (by simp)
  have r0 : _ = some x.v := hcell 0 (by decide)
  rw [Nat.mul_one, Nat.add_zero] at r0
  obtain ⟨ov, cv, hv⟩ : ∃ ov cv, x.v = .slice ov x.L.length cv := by
    obtain ⟨Q, _, h2, _⟩ := h1.lev
    exact h2.slice
  obtain ⟨M, hM⟩ : ∃ M, x.L.length = M := ⟨_, rfl⟩
  rw [hM] at hv
  rw [hv] at r0
  have HV := Lib.hid hv
  have HM := Lib.hid hM
  rw [hN] at r0 o0 H1 hcap hn
  have HN := Lib.hid hN
  rw [hP]
  clear hb1 hP h h1 hcell hfz hrl hv hM
  go_enter Try.func47, Try.ntmps47
  go_upto_region 14 with fail
  generalize w.alloc (.cells #[.int .i64 2, .string ⟨#[]⟩] TT) = w1 at *
  cases xs with
  | nil =>
    have HF := Lib.hid (step_no (t := tShut) (st := [x]) (left := left) (bb := bb) HS.out HB1.out)
    rw [HP.out] at HF
    simp only [List.length_nil] at hN
    subst hN
    simp only [Nat.zero_add] at o0
    clear r0
    go_wp2_with fail
    exact HF.out
  | cons x2 xs2 =>
    obtain ⟨N2, hN2⟩ : ∃ N2, xs2.length = N2 := ⟨_, rfl⟩
    have hNN : N = N2 + 1 := by rw [← hN, List.length_cons, hN2]
    subst hNN
    obtain ⟨Q, h2, hown, hQ, hlev, hb2⟩ := bld_pop H1.out hN
    have hl2 := hl x2 (by simp)
    have CA := Lib.hid (build_add x2 xs2 _ B bb _ left ⟨⟨[], true⟩, x.v, x.L.map Elt.tree⟩ Q h2 (by omega) hl2 hown.subs hQ hlev (Nat.zero_le _))
    have HB2 := Lib.hid (HB1.out.trans hb2)
    rw [HV.out] at CA
    clear h2 hown hQ hlev hb2 hl hN hl2
    go_wp2_with fail
    refine CA.out.mono ?_
    rintro e w3 ⟨rfl, v', h3, hb3⟩
    have HF := Lib.hid (step_yes (t := tShut) (st := x :: x2 :: xs2) (bb := bb) HS.out h3 (by simp [rowsOf, Elt.tree]) (HB2.out.trans hb3))
    rw [HP.out] at HF
    clear h3 hb3
    go_wp2_with fail
    exact HF.out

theorem build_step (t : Tk) (x : Fr) (xs : List Fr) (w : World) (B bb : Nat) (vr : Value) (left : Nat) (h : BldAt w B bb vr left (x :: xs)) (hn : xs.length ≤ 100) (hl : ∀ z, z ∈ x :: xs → z.L.length ≤ 100000) (hleft : left ≤ 1024) (htt : t.text.size ≤ maxLen) :
    Calls Try.prog 47 #[.pointer (some ⟨bb, 0, none⟩), .agg #[.int .i64 t.kind, .string t.text]] w (StepPost t (x :: xs) left B bb w) := by
  obtain ⟨kk, tt⟩ := t
  by_cases h3 : kk = 3
  · subst h3
    exact build_step_word tt x xs w B bb vr left h hn (hl x List.mem_cons_self) hleft htt
  by_cases hz : tt.size = 0
  · obtain rfl := bytes_nil hz
    by_cases h1 : kk = 1
    · subst h1
      exact build_step_open x xs w B bb vr left h hn (hl x List.mem_cons_self) hleft
    by_cases h2 : kk = 2
    · subst h2
      exact build_step_shut x xs w B bb vr left h hn hl
    refine build_step_bad ⟨kk, ⟨#[]⟩⟩ x xs w B bb vr left h ?_ (.inr ⟨rfl, h1, h2, h3⟩)
    rw [rowsOf_cons, stepB_cons, if_neg (show ¬(kk ≠ 3 ∧ (⟨#[]⟩ : ByteArray).size ≠ 0) from fun h => h.2 rfl), if_neg h3, if_neg h1, if_neg h2]
  · refine build_step_bad ⟨kk, tt⟩ x xs w B bb vr left h ?_ (.inl ⟨h3, hz⟩)
    rw [rowsOf_cons, stepB_cons, if_pos ⟨h3, hz⟩]
end Go.Proofs.Ytopfpfpefljkkaa

/- walk.Build. -/
namespace Go.Proofs.Ytopfpfpefljkkaa
open Go.RowKit
set_option linter.unusedVariables false
set_option linter.unusedSimpArgs false

theorem runB_append : ∀ (S R : List Tk) (st : List (List (Rose IL))) (left : Nat), runB (S ++ R) st left = match runB S st left with | none => none | some y => runB R y.1 y.2
  | [], R, st, left => by simp [runB]
  | t :: S, R, st, left => by
    simp only [List.cons_append, runB]
    cases h : stepB t st left with
    | none => rfl
    | some y => simp only [runB_append S R y.1 y.2]
theorem runB_snoc {T : List Tk} {k : Nat} {t : Tk} (h : T[k]? = some t) {st : List (List (Rose IL))} {left : Nat} (hr : runB (T.take k) [[]] 1024 = some (st, left)) : runB (T.take (k + 1)) [[]] 1024 = stepB t st left := by
  rw [List.take_add_one, h, runB_append, hr]
  simp only [Option.toList_some, runB]
  cases stepB t st left <;> rfl
theorem runB_none {T : List Tk} {k : Nat} (h : runB (T.take k) [[]] 1024 = none) : runB T [[]] 1024 = none := by
  rw [← List.take_append_drop k T, runB_append, h]
theorem run_ne : ∀ {T : List Tk} {st st' : List (List (Rose IL))} {left left' : Nat}, runB T st left = some (st', left') → okS st → st ≠ [] → st' ≠ []
  | [], st, st', left, left', h, ho, hn => by
    simp only [runB, Option.some.injEq, Prod.mk.injEq] at h
    obtain ⟨rfl, rfl⟩ := h
    exact hn
  | t :: T, st, st', left, left', h, ho, hn => by
    simp only [runB] at h
    cases hs : stepB t st left with
    | none => rw [hs] at h; cases h
    | some y =>
      rw [hs] at h
      obtain ⟨st1, left1⟩ := y
      obtain ⟨h0, h1, _, _⟩ := step_sound hs ho
      exact run_ne h h1 h0
theorem cntS_mem : ∀ {st : List (List (Rose IL))} {r : List (Rose IL)}, r ∈ st → r.length ≤ cntS st
  | [], r, h => by cases h
  | [r0], r, h => by
    simp at h
    subst h
    exact Rose.length_le_countL r
  | r0 :: r1 :: rs, r, h => by
    rw [cntS_cons]
    rcases List.mem_cons.1 h with rfl | h
    · have := Rose.length_le_countL r; omega
    · have := cntS_mem h; omega
theorem run_bounds {T : List Tk} {st : List (List (Rose IL))} {left : Nat} (h : runB T [[]] 1024 = some (st, left)) : st ≠ [] ∧ st.length ≤ 17 ∧ (∀ r, r ∈ st → r.length ≤ 1024) ∧ left ≤ 1024 := by
  have h0 : okS [[]] := by simp [okS, Rose.allL, Rose.deepL]
  obtain ⟨h1, _, h3⟩ := run_sound h h0
  have hc : cntS [[]] = 0 := rfl
  rw [hc] at h3
  refine ⟨run_ne h h0 (by simp), ?_, fun r hr => ?_, by omega⟩
  · cases st with
    | nil => simp
    | cons r rs => obtain ⟨_, h5, _⟩ := h1; simp only [List.length_cons]; omega
  · have := cntS_mem hr; omega

theorem make_rows (w : World) : (Instr.makeSlice CT (.int .i64 1) (.int .i64 1)).run Try.prog w = .ok (.slice (some ⟨w.heap.size, 0, none⟩) 1 1) (w.alloc (.cells #[.slice none 0 0] ST)) := by
  obtain ⟨i, hi, hz, hs, hb⟩ := info_parts (show (Try.prog.info? ST).map (fun i => (i.zero, i.size, i.bytes)) = some (some (.slice none 0 0), 1, 24) by kernel_rfl)
  have hr := run_make (P := Try.prog) w CT ST i (.slice none 0 0) Try.underlying85 hi hz .i64 .i64 1 1 (by omega) (by omega) (by rw [hb]; decide) (by decide)
  have e : madeCells #[.slice none 0 0] 1 = #[.slice none 0 0] := by
    apply Array.ext'
    rw [toList_madeCells_one]; simp
  simpa [hs, Value.cells, e] using hr
/-- What Build makes at first. -/
theorem build_ini (w : World) : BldAt (((w.alloc (.cells #[.string ⟨#[]⟩, .bool false, .slice none 0 0] IT)).alloc (.cells #[.slice none 0 0] ST)).alloc (.cells #[.slice (some ⟨w.heap.size + 1, 0, none⟩) 1 1, .int .i64 1024] BDT)) (w.heap.size + 1) (w.heap.size + 2) (.slice (some ⟨w.heap.size + 1, 0, none⟩) 1 1) 1024 [⟨.slice none 0 0, [], 0⟩] ∧
    Blk (((w.alloc (.cells #[.string ⟨#[]⟩, .bool false, .slice none 0 0] IT)).alloc (.cells #[.slice none 0 0] ST)).alloc (.cells #[.slice (some ⟨w.heap.size + 1, 0, none⟩) 1 1, .int .i64 1024] BDT)) w.heap.size zero3 IT ∧
    Below w.heap.size w (((w.alloc (.cells #[.string ⟨#[]⟩, .bool false, .slice none 0 0] IT)).alloc (.cells #[.slice none 0 0] ST)).alloc (.cells #[.slice (some ⟨w.heap.size + 1, 0, none⟩) 1 1, .int .i64 1024] BDT)) := by
  have b1 := Blk.new w #[.string ⟨#[]⟩, .bool false, .slice none 0 0] IT
  have a1 := (Below.refl w.heap.size w).alloc (Nat.le_refl _) (.cells #[.string ⟨#[]⟩, .bool false, .slice none 0 0] IT)
  have z1 : (w.alloc (.cells #[.string ⟨#[]⟩, .bool false, .slice none 0 0] IT)).heap.size = w.heap.size + 1 := by simp
  generalize w.alloc (.cells #[.string ⟨#[]⟩, .bool false, .slice none 0 0] IT) = w1 at *
  have b2 := Blk.new w1 #[.slice none 0 0] ST
  have a2 := (Below.refl w1.heap.size w1).alloc (Nat.le_refl _) (.cells #[.slice none 0 0] ST)
  have z2 : (w1.alloc (.cells #[.slice none 0 0] ST)).heap.size = w.heap.size + 2 := by simp [z1]
  rw [z1] at b2 a2
  generalize w1.alloc (.cells #[.slice none 0 0] ST) = w2 at *
  have b3 := Blk.new w2 #[.slice (some ⟨w.heap.size + 1, 0, none⟩) 1 1, .int .i64 1024] BDT
  have a3 := (Below.refl w2.heap.size w2).alloc (Nat.le_refl _) (.cells #[.slice (some ⟨w.heap.size + 1, 0, none⟩) 1 1, .int .i64 1024] BDT)
  have z3 : (w2.alloc (.cells #[.slice (some ⟨w.heap.size + 1, 0, none⟩) 1 1, .int .i64 1024] BDT)).heap.size = w.heap.size + 3 := by simp [z2]
  rw [z2] at b3 a3
  generalize w2.alloc (.cells #[.slice (some ⟨w.heap.size + 1, 0, none⟩) 1 1, .int .i64 1024] BDT) = w3 at *
  refine ⟨⟨b3, ?_, by simp [Value.ownBlock], ⟨fun _ => False, fun c hc => hc.elim, OwnI.nil _ _, trivial⟩, by omega⟩, ?_, ?_⟩
  · exact OwnG.of (f := rf1) (k := 1) (L := [⟨.slice none 0 0, [], 0⟩]) (by omega) (Below.blk a3 b2 (by omega)) (by simp) (by decide) (by simp) rf1_len (by simp [rf1])
  · exact Below.blk a3 (Below.blk a2 b1 (by omega)) (by omega)
  · exact (a1.trans (a2.mono (by omega))).trans (a3.mono (by omega))

/-- What Build tells. -/
def BuildPost (T : List Tk) (w : World) (e : Ending) (w' : World) : Prop := match buildB T with
  | none => e = .returned (.tuple #[.agg #[.string ⟨#[]⟩, .bool false, .slice none 0 0], .int .i64 3]) ∧ Below w.heap.size w w'
  | some x => ∃ o c, e = .returned (.tuple #[.agg #[.string (txt x.lab), .bool x.lab.list, .slice o x.sub.length c], .int .i64 0]) ∧ ISubs w' (.slice o x.sub.length c) x.sub ∧ x.lab.text.length ≤ maxLen ∧ Below w.heap.size w w'
theorem build_no {T : List Tk} {w w' : World} (h : buildB T = none) (hb : Below w.heap.size w w') : BuildPost T w (.returned (.tuple #[.agg #[.string ⟨#[]⟩, .bool false, .slice none 0 0], .int .i64 3])) w' := by
  unfold BuildPost; rw [h]; exact ⟨rfl, hb⟩

set_option maxRecDepth 100000 in
set_option maxHeartbeats 4000000 in
theorem walk_build (T : List Tk) (w : World) (v : Value) (h : RdG tkf 2 w v T) (hT : T.length ≤ 100000) (htx : ∀ t, t ∈ T → t.text.size ≤ maxLen) :
    Calls Try.prog 24 #[v] w (BuildPost T w) := by
  obtain ⟨oa, cap, rfl⟩ := h.slice
  obtain ⟨N, hN⟩ : ∃ N, T.length = N := ⟨_, rfl⟩
  have HN := Lib.hid hN
  obtain ⟨hini, hblk, hbel⟩ := build_ini w
  have HR := Lib.hid h
  have HINI := Lib.hid hini
  have HBLK := Lib.hid hblk
  have HBEL := Lib.hid hbel
  have HTX := Lib.hid htx
  obtain ⟨POST, hP⟩ : ∃ P0, BuildPost T w = P0 := ⟨_, rfl⟩
  have HP := Lib.hid hP
  rw [hP]
  obtain ⟨g, hg⟩ : ∃ g, w.heap.size = g := ⟨_, rfl⟩
  rw [hg] at HINI HBLK HBEL
  rw [hN] at HR hT ⊢
  clear h hini hblk hbel hN hP htx
  go_enter Try.func24, Try.ntmps24
  have hmk := make_rows (w.alloc (.cells #[.string ⟨#[]⟩, .bool false, .slice none 0 0] IT))
  go_upto_region 2 with fail
  have hBB : BDT = 87 := rfl
  generalize hW3 : ((w.alloc (.cells #[.string ⟨#[]⟩, .bool false, .slice none 0 0] IT)).alloc (.cells #[.slice none 0 0] ST)).alloc (.cells #[.slice (some ⟨g + 1, 0, none⟩) 1 1, .int .i64 1024] BDT) = w3 at *
  clear hW3 hmk hBB
  have HB0 : Hid (Below (g + 1) w3 w3) := Lib.hid (Below.refl _ _)
  go_wp2_with fail
  go_loopw [12] (fun iv wi => ∃ (k left : Nat) (vr : Value) (st : List Fr), iv = .int .i64 k ∧ k ≤ N ∧ Hid (runB (T.take k) [[]] 1024 = some (rowsOf st, left)) ∧ Hid (BldAt wi (g + 1) (g + 2) vr left st) ∧ Hid (Below (g + 1) w3 wi)) (fun iv _ => N - (intOf iv).toNat)
  case atStart => exact ⟨0, 1024, _, _, rfl, by omega, Lib.hid rfl, HINI, HB0⟩
  case round =>
    obtain ⟨k, left, vr, st, rfl, hk, hrun, hbld, hbe⟩ := hrel
    obtain ⟨hne, hlen, hrows, hleft⟩ := run_bounds hrun.out
    rw [rowsOf_length] at hlen
    have hB3 : Below g w wr := HBEL.out.trans (hbe.out.mono (by omega))
    have hres := Below.blk hbe.out HBLK.out (Nat.lt_succ_self g)
    have HB3 := Lib.hid hB3
    have HRES := Lib.hid hres
    cases st with
    | nil => exact absurd rfl hne
    | cons x xs =>
    have hl : ∀ z, z ∈ x :: xs → z.L.length ≤ 1024 := fun z hz => by
      have := hrows (z.L.map Elt.tree) (List.mem_map_of_mem hz)
      rwa [List.length_map] at this
    have HL := Lib.hid hl
    clear hne hrows hB3 hres
    by_cases c : k < N
    · obtain ⟨t, ht⟩ : ∃ t, T[k]? = some t := ⟨_, List.getElem?_eq_getElem (by rw [HN.out]; exact c)⟩
      obtain ⟨b, off, rfl, hb, hc⟩ := (HR.out.below (hg ▸ HB3.out)).at_ ht
      have c0 := hc 0 (by decide)
      have c1 := hc 1 (by decide)
      simp only [Nat.add_zero, tkf, List.getElem?_cons_zero, List.getElem?_cons_succ] at c0 c1
      have htx := HTX.out t (List.mem_of_getElem? ht)
      have HSN := Lib.hid (runB_snoc ht hrun.out)
      have hal := (Below.refl wr.heap.size wr).alloc (Nat.le_refl _) (.cells #[.int .i64 t.kind, .string t.text] TT)
      have CS := Lib.hid (build_step t x xs _ (g + 1) (g + 2) vr left (hbld.out.fut hal) (by simp only [List.length_cons] at hlen; omega) (fun z hz => by have := HL.out z hz; omega) hleft htx)
      have hgw : g + 1 ≤ wr.heap.size := by have := HRES.out.lt; omega
      have HAL := Lib.hid (hal.mono hgw)
      have HRT := Lib.hid ht
      unfold StepPost at CS
      cases hs : stepB t (rowsOf (x :: xs)) left with
      | none =>
        simp only [hs] at CS
        rw [hs] at HSN
        have hbn : buildB T = none := by unfold buildB; rw [runB_none HSN.out]
        have HBN := Lib.hid hbn
        clear hc ht hal htx hbn hs hlen hleft
        go_wp2_with fail
        refine CS.out.mono ?_
        rintro e w4 ⟨rfl, hb4⟩
        have H4 := HAL.out.trans hb4
        have hres4 := Below.blk H4 HRES.out (Nat.lt_succ_self g)
        have c0 : w4.cell? ⟨g, 0, none⟩ = some (.string ⟨#[]⟩) := hres4.cell 0
        have c1 : w4.cell? ⟨g, 1, none⟩ = some (.bool false) := hres4.cell 1
        have c2 : w4.cell? ⟨g, 2, none⟩ = some (.slice none 0 0) := hres4.cell 2
        have z0 := hres4.free 0
        have z1 := hres4.free 1
        have z2 := hres4.free 2
        have hp3 := put3_upd w4 g 0 (.string ⟨#[]⟩) (.bool false) (.slice none 0 0)
        have hblk3 : Blk (put3 w4 g 0 (.string ⟨#[]⟩) (.bool false) (.slice none 0 0)) g #[.string ⟨#[]⟩, .bool false, .slice none 0 0] IT := ((hres4.set 0 _).set 1 _).set 2 _
        have HFB : Hid (Below g w (put3 w4 g 0 (.string ⟨#[]⟩) (.bool false) (.slice none 0 0))) := Lib.hid (Upd.below hp3 (HB3.out.trans (H4.mono (by omega))) (Nat.le_refl _) (by have := H4.size; omega))
        have d0 := hblk3.cell 0
        have d1 := hblk3.cell 1
        have d2 := hblk3.cell 2
        have HD := Lib.hid (And.intro d0 (And.intro d1 d2))
        clear hb4 H4 hres4 hp3 hblk3 d0 d1 d2
        go_wp2_with fail
        rw [put3_eq]
        obtain ⟨d0, d1, d2⟩ := HD.out
        simp only [List.getElem?_toArray, List.getElem?_cons_zero, List.getElem?_cons_succ] at d0 d1 d2
        refine bodyPost_ret (v := .tuple #[.agg #[.string ⟨#[]⟩, .bool false, .slice none 0 0], .int .i64 3]) (by simp [results, Try.results24, go_sem, d0, d1, d2]) rfl ?_
        rw [← HP.out]
        exact build_no HBN.out (hg.symm ▸ HFB.out)
      | some y =>
        simp only [hs] at CS
        rw [hs] at HSN
        obtain ⟨y1, y2⟩ := y
        dsimp only at CS
        clear hc ht hal htx hs hlen hleft
        go_wp2_with fail
        refine CS.out.mono ?_
        rintro e w4 ⟨rfl, vr', st', h4, hr4, hb4⟩
        have H4 := Lib.hid (And.intro h4 (And.intro hr4 (hbe.out.trans (HAL.out.trans hb4))))
        clear h4 hr4 hb4
        go_wp2_with fail
        go_roundw
        case rel => exact ⟨k + 1, y2, vr', st', by go_num, by omega, by unfold Hid; rw [HSN.out, H4.out.2.1], Lib.hid H4.out.1, Lib.hid H4.out.2.2⟩
        case measure => simp [intOf]; omega
    · obtain rfl : k = N := by omega
      have hrT : runB T [[]] 1024 = some (rowsOf (x :: xs), left) := by have := hrun.out; rwa [← HN.out, List.take_length] at this
      obtain ⟨oa2, cr, hvr⟩ := hbld.out.row.slice
      have hrl : (x :: xs).reverse.length = xs.length + 1 := by simp
      rw [hrl] at hvr
      subst hvr
      have o0 := hbld.out.ho.cell 0
      obtain ⟨ov, cv, hv⟩ : ∃ ov cv, x.v = .slice ov x.L.length cv := by
        obtain ⟨Q, _, h2, _⟩ := hbld.out.lev
        exact h2.slice
      cases xs with
      | cons x2 xs2 =>
        have hbn : buildB T = none := by unfold buildB; rw [hrT]; simp [rowsOf]
        have HBN := Lib.hid hbn
        obtain ⟨N2, hN2⟩ : ∃ N2, (x2 :: xs2).length = N2 := ⟨_, rfl⟩
        rw [hN2] at o0
        have hne1 : (((N2 : Int) + 1) != 1) = true := by simp; simp only [List.length_cons] at hN2; omega
        clear hrT hbn hrl hv hN2 hlen hleft
        have c0 : wr.cell? ⟨g, 0, none⟩ = some (.string ⟨#[]⟩) := HRES.out.cell 0
        have c1 : wr.cell? ⟨g, 1, none⟩ = some (.bool false) := HRES.out.cell 1
        have c2 : wr.cell? ⟨g, 2, none⟩ = some (.slice none 0 0) := HRES.out.cell 2
        have z0 := HRES.out.free 0
        have z1 := HRES.out.free 1
        have z2 := HRES.out.free 2
        have hblk3 : Blk (put3 wr g 0 (.string ⟨#[]⟩) (.bool false) (.slice none 0 0)) g #[.string ⟨#[]⟩, .bool false, .slice none 0 0] IT := ((HRES.out.set 0 _).set 1 _).set 2 _
        have HFB : Hid (Below g w (put3 wr g 0 (.string ⟨#[]⟩) (.bool false) (.slice none 0 0))) := Lib.hid (Upd.below (put3_upd wr g 0 (.string ⟨#[]⟩) (.bool false) (.slice none 0 0)) HB3.out (Nat.le_refl _) (by have := HRES.out.lt; omega))
        have d0 := hblk3.cell 0
        have d1 := hblk3.cell 1
        have d2 := hblk3.cell 2
        have HD := Lib.hid (And.intro d0 (And.intro d1 d2))
        clear hblk3 d0 d1 d2
        go_wp2_with fail
        rw [put3_eq]
        obtain ⟨d0, d1, d2⟩ := HD.out
        simp only [List.getElem?_toArray, List.getElem?_cons_zero, List.getElem?_cons_succ] at d0 d1 d2
        refine bodyPost_ret (v := .tuple #[.agg #[.string ⟨#[]⟩, .bool false, .slice none 0 0], .int .i64 3]) (by simp [results, Try.results24, go_sem, d0, d1, d2]) rfl ?_
        rw [← HP.out]
        exact build_no HBN.out (hg.symm ▸ HFB.out)
      | nil =>
      obtain ⟨go, rfl, hBgo, hgolt, _, hcap, hcell, hfz⟩ := OwnG.at_ hbld.out.row rf1_len (i := 0) (y := x) (by simp)
      have r0 : _ = some x.v := hcell 0 (by decide)
      rw [Nat.zero_mul, Nat.zero_add] at r0
      obtain ⟨M, hM⟩ : ∃ M, x.L.length = M := ⟨_, rfl⟩
      rw [hM] at hv
      rw [hv] at r0
      simp only [List.length_nil, Nat.zero_add] at o0
      by_cases hM1 : M = 1
      · subst hM1
        obtain ⟨y, hy⟩ : ∃ y, x.L = [y] := List.length_eq_one_iff.1 hM
        have hbn : buildB T = some (Elt.tree y) := by
          unfold buildB
          rw [hrT]
          simp only [rowsOf, List.map_cons, List.map_nil, hy]
        obtain ⟨Q, hq1, hq2, _⟩ := hbld.out.lev
        rw [hy, hv] at hq2
        obtain ⟨gi, rfl, _, hgil, hln, hcap2, hci, _⟩ := OwnG.at_ hq2.1 itf_len (i := 0) (y := y) (by simp)
        obtain ⟨hyt, hys⟩ := hq2.2.2 y (by simp)
        obtain ⟨ou, cu, hu, _, _⟩ := ISubsQ.slice hys
        have i0 := hci 0 (by decide)
        have i1 := hci 1 (by decide)
        have i2 := hci 2 (by decide)
        simp only [itf, hu, Nat.zero_mul, Nat.zero_add, List.getElem?_cons_zero, List.getElem?_cons_succ] at i0 i1 i2
        obtain ⟨nu, hnu⟩ : ∃ nu, y.sub.length = nu := ⟨_, rfl⟩
        rw [hnu] at i2 hu
        have HY := Lib.hid (And.intro hys (And.intro hyt (And.intro hu hnu)))
        have HBN := Lib.hid hbn
        have HQ1 := Lib.hid hq1
        have c0 : wr.cell? ⟨g, 0, none⟩ = some (.string ⟨#[]⟩) := HRES.out.cell 0
        have c1 : wr.cell? ⟨g, 1, none⟩ = some (.bool false) := HRES.out.cell 1
        have c2 : wr.cell? ⟨g, 2, none⟩ = some (.slice none 0 0) := HRES.out.cell 2
        have z0 := HRES.out.free 0
        have z1 := HRES.out.free 1
        have z2 := HRES.out.free 2
        have hblk3 : Blk (put3 wr g 0 (.string (txt y.lab)) (.bool y.lab.list) (.slice ou nu cu)) g #[.string (txt y.lab), .bool y.lab.list, .slice ou nu cu] IT := ((HRES.out.set 0 _).set 1 _).set 2 _
        have HFB : Hid (Below g w (put3 wr g 0 (.string (txt y.lab)) (.bool y.lab.list) (.slice ou nu cu))) := Lib.hid (Upd.below (put3_upd wr g 0 _ _ _) HB3.out (Nat.le_refl _) (by have := HRES.out.lt; omega))
        have d0 := hblk3.cell 0
        have d1 := hblk3.cell 1
        have d2 := hblk3.cell 2
        have HD := Lib.hid (And.intro d0 (And.intro d1 d2))
        clear hblk3 d0 d1 d2 hrT hbn hrl hv hM hcell hfz hlen hleft hq1 hq2 hci hyt hys hu hnu hy hln
        go_wp2_with fail
        rw [put3_eq]
        obtain ⟨d0, d1, d2⟩ := HD.out
        simp only [List.getElem?_toArray, List.getElem?_cons_zero, List.getElem?_cons_succ] at d0 d1 d2
        refine bodyPost_ret (v := .tuple #[.agg #[.string (txt y.lab), .bool y.lab.list, .slice ou nu cu], .int .i64 0]) (by simp [results, Try.results24, go_sem, d0, d1, d2]) rfl ?_
        rw [← HP.out]
        unfold BuildPost
        rw [HBN.out]
        obtain ⟨h1, h2, h3, h4⟩ := HY.out
        refine ⟨ou, cu, by simp only [Elt.tree, Rose.lab_node, Rose.sub_node, h4], ?_, h2, hg.symm ▸ HFB.out⟩
        simp only [Elt.tree, Rose.sub_node, h4]
        rw [h3] at h1
        exact ISubsQ.any (Shape.Subs.keep (Q' := fun _ => True) h1 (by rw [put3_size]; exact Nat.le_refl _) (fun _ _ _ => trivial) fun c' _ hc => put3_heap c' fun e => HQ1.out c' hc.1 (.inl (by omega)))
      · have hbn : buildB T = none := by
          unfold buildB
          rw [hrT]
          have hne : (x.L.map Elt.tree).length ≠ 1 := by rw [List.length_map, hM]; exact hM1
          simp only [rowsOf, List.map_cons, List.map_nil]
          generalize x.L.map Elt.tree = R at hne
          match R, hne with
          | [], _ => rfl
          | [_], h => exact absurd rfl h
          | _ :: _ :: _, _ => rfl
        have HBN := Lib.hid hbn
        have hne1 : ((M : Int) != 1) = true := by simp; omega
        clear hrT hbn hrl hv hM hM1 hcell hfz hlen hleft
        have c0 : wr.cell? ⟨g, 0, none⟩ = some (.string ⟨#[]⟩) := HRES.out.cell 0
        have c1 : wr.cell? ⟨g, 1, none⟩ = some (.bool false) := HRES.out.cell 1
        have c2 : wr.cell? ⟨g, 2, none⟩ = some (.slice none 0 0) := HRES.out.cell 2
        have z0 := HRES.out.free 0
        have z1 := HRES.out.free 1
        have z2 := HRES.out.free 2
        have hblk3 : Blk (put3 wr g 0 (.string ⟨#[]⟩) (.bool false) (.slice none 0 0)) g #[.string ⟨#[]⟩, .bool false, .slice none 0 0] IT := ((HRES.out.set 0 _).set 1 _).set 2 _
        have HFB : Hid (Below g w (put3 wr g 0 (.string ⟨#[]⟩) (.bool false) (.slice none 0 0))) := Lib.hid (Upd.below (put3_upd wr g 0 (.string ⟨#[]⟩) (.bool false) (.slice none 0 0)) HB3.out (Nat.le_refl _) (by have := HRES.out.lt; omega))
        have d0 := hblk3.cell 0
        have d1 := hblk3.cell 1
        have d2 := hblk3.cell 2
        have HD := Lib.hid (And.intro d0 (And.intro d1 d2))
        clear hblk3 d0 d1 d2
        go_wp2_with fail
        rw [put3_eq]
        obtain ⟨d0, d1, d2⟩ := HD.out
        simp only [List.getElem?_toArray, List.getElem?_cons_zero, List.getElem?_cons_succ] at d0 d1 d2
        refine bodyPost_ret (v := .tuple #[.agg #[.string ⟨#[]⟩, .bool false, .slice none 0 0], .int .i64 3]) (by simp [results, Try.results24, go_sem, d0, d1, d2]) rfl ?_
        rw [← HP.out]
        exact build_no HBN.out (hg.symm ▸ HFB.out)
end Go.Proofs.Ytopfpfpefljkkaa

/- walk.Put. -/
namespace Go.Proofs.Ytopfpfpefljkkaa
open Go.RowKit
set_option linter.unusedVariables false
set_option linter.unusedSimpArgs false

/-- What Put tells. -/
def WPutPost (T : List Tk) (w : World) (e : Ending) (w' : World) : Prop := match buildB T with
  | none => e = .returned (.tuple #[.string ⟨#[]⟩, .int .i64 3]) ∧ Below w.heap.size w w'
  | some x => e = .returned (.tuple #[.string ⟨(enc x).toArray⟩, .int .i64 0]) ∧ Below w.heap.size w w'

set_option maxRecDepth 100000 in
set_option maxHeartbeats 2000000 in
theorem walk_put (T : List Tk) (w : World) (v : Value) (h : RdG tkf 2 w v T) (hT : T.length ≤ 100000) (htx : ∀ t, t ∈ T → t.text.size ≤ maxLen) (hE : ∀ x, buildB T = some x → (enc x).length ≤ 100000) :
    Calls Try.prog 25 #[v] w (WPutPost T w) := by
  have CB := walk_build T w v h hT htx
  obtain ⟨oa, cap, rfl⟩ := h.slice
  obtain ⟨POST, hP⟩ : ∃ P0, WPutPost T w = P0 := ⟨_, rfl⟩
  have HP := Lib.hid hP
  rw [hP]
  unfold BuildPost at CB
  cases hb : buildB T with
  | none =>
    have HB := Lib.hid hb
    simp only [hb] at CB
    have CB := Lib.hid CB
    clear h hP htx hE hb
    go_enter Try.func25, Try.ntmps25
    go_wp2_with fail
    refine CB.out.mono ?_
    rintro e w2 ⟨rfl, hb2⟩
    have HF : Hid (WPutPost T w (.returned (.tuple #[.string ⟨#[]⟩, .int .i64 3])) (w2.alloc (.cells #[.string ⟨#[]⟩, .bool false, .slice none 0 0] IT))) := Lib.hid (by unfold WPutPost; rw [HB.out]; exact ⟨rfl, hb2.alloc hb2.size _⟩)
    rw [HP.out] at HF
    clear hb2
    go_wp2_with fail
    exact HF.out
  | some x =>
    have HB := Lib.hid hb
    have hm := (build_sound hb).2
    have hEx := hE x hb
    have hpv : putV x = .tuple #[.string ⟨(enc x).toArray⟩, .int .i64 0] := by unfold putV; rw [if_pos hm]
    simp only [hb] at CB
    obtain ⟨n, hn⟩ : ∃ n, x.sub.length = n := ⟨_, rfl⟩
    rw [hn] at CB
    have CB := Lib.hid CB
    have CP := Lib.hid (fun W u (hu : ISubs W u x.sub) (hx : x.lab.text.length ≤ maxLen) => rlp_put x W u hu hx (fun _ => hEx))
    rw [hpv] at CP
    clear h hP htx hE hb hm hEx hpv hn
    go_enter Try.func25, Try.ntmps25
    go_wp2_with fail
    refine CB.out.mono ?_
    rintro e w2 ⟨o, c, rfl, hs, hx, hb2⟩
    have HS := Lib.hid (Shape.Subs.below hs ((Below.refl w2.heap.size w2).alloc (Nat.le_refl _) (.cells #[.string (txt x.lab), .bool x.lab.list, .slice o n c] IT)))
    have HX := Lib.hid hx
    have HB2 := Lib.hid (hb2.alloc hb2.size (.cells #[.string (txt x.lab), .bool x.lab.list, .slice o n c] IT))
    clear hs hx hb2
    go_wp2_with fail
    refine (CP.out _ _ HS.out HX.out).mono ?_
    rintro e w3 ⟨rfl, hb3⟩
    have HF : Hid (WPutPost T w (.returned (.tuple #[.string ⟨(enc x).toArray⟩, .int .i64 0])) w3) := Lib.hid (by unfold WPutPost; rw [HB.out]; exact ⟨rfl, HB2.out.trans (hb3.mono HB2.out.size)⟩)
    rw [HP.out] at HF
    clear hb3
    go_wp2_with fail
    exact HF.out
end Go.Proofs.Ytopfpfpefljkkaa
