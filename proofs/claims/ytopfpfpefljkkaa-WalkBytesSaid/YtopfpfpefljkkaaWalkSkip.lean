/- walk.Skip over the tokens of an item. -/
import Derived.Test.YtopfpfpefljkkaaWalkDoc
import Derived.Test.YtopfpfpefljkkaaRdG
namespace Go.Proofs.Ytopfpfpefljkkaa
open Go.RowKit
set_option linter.unusedVariables false
set_option linter.unusedSimpArgs false

/-- How many lists are open behind tokens. -/
def lev : List Tk → Int
  | [] => 0
  | t :: T => (if t.kind = 1 then 1 else 0) - (if t.kind = 2 then 1 else 0) + lev T
theorem lev_append (S T : List Tk) : lev (S ++ T) = lev S + lev T := by
  induction S with
  | nil => simp [lev]
  | cons t S ih => simp only [List.cons_append, lev, ih]; omega
theorem lev_take {T : List Tk} {i : Nat} {t : Tk} (h : T[i]? = some t) : lev (T.take (i + 1)) = lev (T.take i) + ((if t.kind = 1 then 1 else 0) - (if t.kind = 2 then 1 else 0)) := by
  rw [List.take_add_one, h, lev_append]
  simp [lev]
theorem lev_le (T : List Tk) : lev T ≤ T.length ∧ -(T.length : Int) ≤ lev T := by
  induction T with
  | nil => simp [lev]
  | cons t T ih => simp only [lev, List.length_cons]; split <;> split <;> omega

theorem lev_toks (x : Rose IL) : lev (toks x) = 0 ∧ ∀ i, 0 ≤ lev ((toks x).take i) := by
  refine Rose.ind (P := fun x => lev (toks x) = 0 ∧ ∀ i, 0 ≤ lev ((toks x).take i)) (fun a s ih => ?_) x
  have hL : ∀ (s : List (Rose IL)), (∀ x, x ∈ s → lev (toks x) = 0 ∧ ∀ i, 0 ≤ lev ((toks x).take i)) → lev (toksL s) = 0 ∧ ∀ i, 0 ≤ lev ((toksL s).take i) := by
    intro s
    induction s with
    | nil => intro _; simp [toksL, lev]
    | cons x s ih =>
      intro h
      have h1 := h x List.mem_cons_self
      have h2 := ih fun y hy => h y (List.mem_cons_of_mem _ hy)
      rw [toksL_cons, lev_append]
      refine ⟨by omega, fun i => ?_⟩
      rw [List.take_append, lev_append]
      have := h1.2 i
      have := h2.2 (i - (toks x).length)
      omega
  have hs := hL s ih
  cases hl : a.list with
  | false =>
    rw [toks_word (x := .node a s) hl]
    refine ⟨rfl, fun i => ?_⟩
    cases i with
    | zero => simp [lev]
    | succ i => simp [lev, tWord]
  | true =>
    rw [toks_list (x := .node a s) hl]
    simp only [Rose.sub_node]
    refine ⟨?_, fun i => ?_⟩
    · simp only [lev, lev_append, hs.1]; simp [tOpen, tShut]
    · cases i with
      | zero => simp [lev]
      | succ i =>
        rw [List.take_succ_cons, List.take_append]
        have h3 := hs.2 i
        simp only [lev, lev_append]
        have : -1 ≤ lev (List.take (i - (toksL s).length) [tShut]) := by
          cases i - (toksL s).length with
          | zero => simp [lev]
          | succ n => simp [lev, tShut]
        simp [tOpen]
        omega
/-- Within a list's tokens at least one list is open. -/
theorem lev_inner {x : Rose IL} (h : x.lab.list = true) {i : Nat} (hi : 0 < i) (hi2 : i < (toks x).length) : 0 < lev ((toks x).take i) := by
  cases x with
  | node a s =>
    have hs : ∀ i, 0 ≤ lev ((toksL s).take i) := by
      intro i
      have : ∀ (s : List (Rose IL)) (i : Nat), 0 ≤ lev ((toksL s).take i) := by
        intro s
        induction s with
        | nil => intro i; simp [toksL, lev]
        | cons x s ih =>
          intro i
          rw [toksL_cons, List.take_append, lev_append]
          have := (lev_toks x).2 i
          have := ih (i - (toks x).length)
          omega
      exact this s i
    rw [toks_list h] at hi2 ⊢
    simp only [Rose.sub_node, List.length_cons, List.length_append, List.length_nil] at hi2
    simp only [Rose.sub_node]
    obtain ⟨j, rfl⟩ : ∃ j, i = j + 1 := ⟨i - 1, by omega⟩
    rw [List.take_succ_cons, List.take_append, show j - (toksL s).length = 0 by omega]
    have := hs j
    simp [lev, tOpen]
    omega
theorem toks_kinds (x : Rose IL) : ∀ t, t ∈ toks x → t.kind = 1 ∨ t.kind = 2 ∨ t.kind = 3 := by
  refine Rose.ind (P := fun x => ∀ t, t ∈ toks x → t.kind = 1 ∨ t.kind = 2 ∨ t.kind = 3) (fun a s ih => ?_) x
  have hL : ∀ t, t ∈ toksL s → t.kind = 1 ∨ t.kind = 2 ∨ t.kind = 3 := by
    have : ∀ (s : List (Rose IL)), (∀ x, x ∈ s → ∀ t, t ∈ toks x → t.kind = 1 ∨ t.kind = 2 ∨ t.kind = 3) → ∀ t, t ∈ toksL s → t.kind = 1 ∨ t.kind = 2 ∨ t.kind = 3 := by
      intro s
      induction s with
      | nil => intro _ t h; simp [toksL] at h
      | cons x s ih =>
        intro h t ht
        rw [toksL_cons, List.mem_append] at ht
        rcases ht with ht | ht
        · exact h x List.mem_cons_self t ht
        · exact ih (fun y hy => h y (List.mem_cons_of_mem _ hy)) t ht
    exact this s ih
  intro t ht
  cases hl : a.list with
  | false =>
    rw [toks_word (x := .node a s) hl] at ht
    simp at ht
    subst ht
    simp [tWord]
  | true =>
    rw [toks_list (x := .node a s) hl] at ht
    simp only [Rose.sub_node, List.mem_cons, List.mem_append, List.not_mem_nil, or_false] at ht
    rcases ht with rfl | ht | rfl
    · simp [tOpen]
    · exact hL t ht
    · simp [tShut]

set_option maxRecDepth 100000 in
set_option maxHeartbeats 4000000 in
theorem walk_skip (x : Rose IL) (w : World) (v : Value) (h : RdG tkf 2 w v (toks x)) (hlen : (toks x).length ≤ 100000) :
    Calls Try.prog 26 #[v, .int .i64 0] w fun e w' => e = .returned (.tuple #[.int .i64 ((toks x).length : Nat), .int .i64 0]) ∧ Below w.heap.size w w' := by
  obtain ⟨oa, cap, rfl⟩ := h.slice
  have hpos := (toks_le x).2
  cases hl : x.lab.list with
  | false =>
    have ht := toks_word hl
    obtain ⟨b, off, rfl, hb, hc⟩ := h.at_ (i := 0) (y := tWord x.lab) (by rw [ht]; rfl)
    have h0 := hc 0 (by decide)
    simp only [Nat.zero_mul, Nat.add_zero, tkf, tWord, List.getElem?_cons_zero] at h0
    have HR0 := Lib.hid (Below.refl w.heap.size w)
    rw [ht] at hpos ⊢
    simp only [List.length_cons, List.length_nil, Nat.zero_add] at hpos ⊢
    clear h hc ht
    go_enter Try.func26, Try.ntmps26
    go_wp2_with fail
    go_returns
    exact ⟨rfl, HR0.out⟩
  | true =>
    have ht := toks_list hl
    obtain ⟨b, off, rfl, hb, hc⟩ := h.at_ (i := 0) (y := tOpen) (by rw [ht]; rfl)
    have h0 := hc 0 (by decide)
    simp only [Nat.zero_mul, Nat.add_zero, tkf, tOpen, List.getElem?_cons_zero] at h0
    have HLV := Lib.hid (And.intro (lev_toks x).1 (fun i h1 h2 => lev_inner hl (i := i) h1 h2))
    have HKN := Lib.hid (toks_kinds x)
    obtain ⟨T, hT⟩ : ∃ T, toks x = T := ⟨_, rfl⟩
    rw [hT] at h hlen hpos HLV HKN ⊢
    obtain ⟨N, hN⟩ : ∃ N, T.length = N := ⟨_, rfl⟩
    have H := Lib.hid h
    have HN := Lib.hid hN
    rw [hN] at hlen hpos H HLV ⊢
    clear h hc ht hT hN
    go_enter Try.func26, Try.ntmps26
    go_wp2_with fail
    go_loopw [6, 32] (fun ov iv wi => ∃ k : Nat, iv = .int .i64 k ∧ k < N ∧ ov = .int .i64 (lev (T.take k)) ∧ Hid (Below w.heap.size w wi)) (fun _ iv _ => N - (intOf iv).toNat)
    case atStart => exact ⟨0, rfl, by omega, by simp [lev], Lib.hid (Below.refl _ _)⟩
    case round =>
      obtain ⟨k, rfl, hk, rfl, hbe⟩ := hrel
      obtain ⟨t, ht⟩ : ∃ t, T[k]? = some t := ⟨_, List.getElem?_eq_getElem (by rw [HN.out]; exact hk)⟩
      obtain ⟨b2, off2, he, hb2, hc⟩ := (H.out.below hbe.out).at_ ht
      cases he
      have c0 := hc 0 (by decide)
      have c1 := hc 1 (by decide)
      simp only [Nat.add_zero, tkf, List.getElem?_cons_zero, List.getElem?_cons_succ] at c0 c1
      have hkind := HKN.out t (List.mem_of_getElem? ht)
      have hlt := lev_take ht
      have hbd := lev_le (T.take k)
      have hin := HLV.out.2 (k + 1) (by omega)
      have hall := HLV.out.1
      have hfull : k + 1 = N → lev (T.take (k + 1)) = 0 := fun e => by rw [e, ← HN.out, List.take_length]; exact hall
      rw [List.length_take, HN.out, Nat.min_eq_left (by omega)] at hbd
      obtain ⟨kk, tt⟩ := t
      dsimp only at c0 c1 hkind hlt
      have HA := Lib.hid (hbe.out.alloc (Nat.le_trans (Nat.le_refl _) hbe.out.size) (.cells #[.int .i64 kk, .string tt] TT))
      clear hc ht
      obtain ⟨z, hz⟩ : ∃ z, lev (T.take k) = z := ⟨_, rfl⟩
      obtain ⟨z2, hz2⟩ : ∃ z2, lev (T.take (k + 1)) = z2 := ⟨_, rfl⟩
      rw [hz2] at hin hfull
      rw [hz, hz2] at hlt
      rw [hz] at hbd ⊢
      have HZ2 := Lib.hid hz2
      clear hz hz2 hall
      have key : k + 1 < N ∧ 0 < z2 ∨ k + 1 = N ∧ z2 = 0 := by
        rcases Nat.lt_or_ge (k + 1) N with h1 | h1
        · exact .inl ⟨h1, hin h1⟩
        · exact .inr ⟨by omega, hfull (by omega)⟩
      clear hin hfull
      rcases hkind with rfl | rfl | rfl
      all_goals simp only [if_true, if_false, Int.reduceEq] at hlt
      · obtain rfl : z2 = z + 1 := by omega
        rcases key with ⟨k1, k2⟩ | ⟨k1, k2⟩
        · have hq : ((z + 1 : Int) == 0) = false := by simp; omega
          clear hlt
          go_wp2_with fail
          exact ⟨⟨k + 1, by go_num, k1, by rw [HZ2.out], HA⟩, by simp [intOf]; omega⟩
        · obtain rfl : z = -1 := by omega
          subst k1
          clear hlt
          go_wp2_with fail
          go_returns
          exact ⟨rfl, HA.out⟩
      · obtain rfl : z2 = z - 1 := by omega
        rcases key with ⟨k1, k2⟩ | ⟨k1, k2⟩
        · have hq : ((z - 1 : Int) == 0) = false := by simp; omega
          clear hlt
          go_wp2_with fail
          exact ⟨⟨k + 1, by go_num, k1, by rw [HZ2.out], HA⟩, by simp [intOf]; omega⟩
        · obtain rfl : z = 1 := by omega
          subst k1
          clear hlt
          go_wp2_with fail
          go_returns
          exact ⟨rfl, HA.out⟩
      · obtain rfl : z2 = z := by omega
        rcases key with ⟨k1, k2⟩ | ⟨k1, k2⟩
        · have hq : ((z2 : Int) == 0) = false := by simp; omega
          clear hlt
          go_wp2_with fail
          exact ⟨⟨k + 1, by go_num, k1, by rw [HZ2.out], HA⟩, by simp [intOf]; omega⟩
        · subst k2
          subst k1
          clear hlt
          go_wp2_with fail
          go_returns
          exact ⟨rfl, HA.out⟩
end Go.Proofs.Ytopfpfpefljkkaa
