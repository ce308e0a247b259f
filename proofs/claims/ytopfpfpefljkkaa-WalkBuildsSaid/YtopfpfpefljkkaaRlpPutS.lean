/- rlp.Put: its stack of lists that are being laid. -/
import Derived.Test.YtopfpfpefljkkaaRlpPutA
import Derived.Test.YtopfpfpefljkkaaGRow
namespace Go.Proofs.Ytopfpfpefljkkaa
open Go.RowKit
set_option linter.unusedVariables false
set_option linter.unusedSimpArgs false

/-- A list that is being laid: the items that are still to come, the bytes of the others; its bytes lie from B on. -/
structure PF where
  iv : Value
  s : List (Rose IL)
  bv : Value
  l : List UInt8
  B : Nat
def pf2 (x : PF) : List Value := [x.iv, x.bv]
theorem pf2_len (x : PF) : (pf2 x).length = 2 := rfl
abbrev LT : TypeId := 73
abbrev U8 : TypeId := 5
theorem lt_ne_u8 : LT ≠ U8 := by decide
theorem lt_row : RowTypes Try.prog 74 LT 2 := ⟨Try.underlying74, ⟨.agg #[.slice none 0 0, .slice none 0 0], 48, by
  obtain ⟨i, h1, h2, h3, h4⟩ := info_parts (show (Try.prog.info? LT).map (fun i => (i.zero, i.size, i.bytes)) = some (some (.agg #[.slice none 0 0, .slice none 0 0]), 2, 48) by kernel_rfl)
  exact ⟨i, h1, h2, h3, h4, by decide, rfl⟩⟩, by decide⟩
theorem OwnB.form {w : World} {B : Nat} {e : TypeId} {v : Value} {l : List UInt8} (h : OwnB w B e v l) : ∀ b, v.ownBlock = some b → B ≤ b ∧ ∃ cs, Blk w b cs e := by
  rcases h.2 with ⟨rfl, _⟩ | ⟨g, cap, cur, rfl, hb, hg, _⟩
  · intro b h; cases h
  · intro b h; cases h; exact ⟨hb, cur, hg⟩
theorem OwnB.keep {w w' : World} {B : Nat} {e : TypeId} {v : Value} {l : List UInt8} (h : OwnB w B e v l) (hk : ∀ b cs, v.ownBlock = some b → Blk w b cs e → w'.heap[b]? = w.heap[b]?) : OwnB w' B e v l := by
  refine ⟨h.1, ?_⟩
  rcases h.2 with h2 | ⟨g, cap, cur, hv, hg, hh, r⟩
  · exact .inl h2
  · refine .inr ⟨g, cap, cur, hv, hg, ?_, r⟩
    rw [hk g cur (by rw [hv]; rfl) hh]; exact hh
theorem OwnB.slice {w : World} {B : Nat} {e : TypeId} {v : Value} {l : List UInt8} (h : OwnB w B e v l) : ∃ oa cap, v = .slice oa l.length cap := by
  rcases h.2 with ⟨rfl, h0⟩ | ⟨g, cap, cur, rfl, _⟩
  · exact ⟨none, 0, by rw [h0]⟩
  · exact ⟨_, cap, rfl⟩
/-- What an append to owned bytes leaves as it was. -/
theorem OwnB.far {w w' : World} {B : Nat} {v : Value} {l : List UInt8} (h : OwnB w B U8 v l) (hg : w.grownBy w' v.ownBlock) : ∀ c, c < w.heap.size → (c < B ∨ ∃ cs, Blk w c cs LT) → w'.heap[c]? = w.heap[c]? := fun c hc hh => by
  refine hg.block c hc fun e => ?_
  obtain ⟨h1, cs, h2⟩ := h.form c e.symm
  rcases hh with hh | ⟨cs', hh⟩
  · omega
  · unfold Blk at h2 hh
    rw [h2] at hh
    injection hh with hh
    injection hh with _ hh _
    exact lt_ne_u8 hh.symm

theorem OwnB.far2 {w w' : World} {B : Nat} {v : Value} {l : List UInt8} (h : OwnB w B U8 v l) (hg : w.grownBy w' v.ownBlock) {c : Nat} {cs : Array Value} {t : TypeId} (hb : Blk w c cs t) (ht : t ≠ U8) : w'.heap[c]? = w.heap[c]? := by
  refine hg.block c hb.lt fun e => ?_
  obtain ⟨_, cs', h2⟩ := h.form c e.symm
  unfold Blk at h2 hb
  rw [h2] at hb
  injection hb with hb
  injection hb with _ hb _
  exact ht hb.symm

/-- The levels, the inmost first. -/
def PLevs (w : World) (B1 : Nat) : Nat → List PF → Prop
  | _, [] => True
  | hi, x :: xs => B1 ≤ x.B ∧ x.B ≤ hi ∧ OwnB w x.B U8 x.bv x.l ∧ (∀ b, x.bv.ownBlock = some b → b < hi) ∧ ISubsQ w (fun c => c < B1) x.iv x.s ∧ PLevs w B1 x.B xs
theorem PLevs.keep {w w' : World} {B1 : Nat} (hs : w.heap.size ≤ w'.heap.size) (h1 : ∀ c, c < w.heap.size → c < B1 → w'.heap[c]? = w.heap[c]?) : ∀ {st : List PF} {hi hi' : Nat}, PLevs w B1 hi st → hi ≤ hi' →
    (∀ c cs, c < hi → Blk w c cs U8 → w'.heap[c]? = w.heap[c]?) → PLevs w' B1 hi' st
  | [], _, _, _, _, _ => trivial
  | x :: xs, hi, hi', ⟨a1, a2, a3, a4, a5, a6⟩, hh, hk =>
    ⟨a1, by omega, a3.keep fun b cs hb hB => hk b cs (a4 b hb) hB, fun b hb => by have := a4 b hb; omega, Shape.Subs.keep a5 hs (fun _ _ h => h) fun c hc hq => h1 c hc hq,
      PLevs.keep hs h1 a6 (Nat.le_refl _) fun c cs hc hB => hk c cs (by omega) hB⟩
structure PInv (w1 w : World) (B1 : Nat) (vr : Value) (st : List PF) : Prop where
  row : OwnG pf2 2 w B1 LT vr st.reverse
  lev : PLevs w B1 w.heap.size st
  bel : Below B1 w1 w
  hB : B1 ≤ w.heap.size

/-- The cells of the inmost list. -/
theorem pinv_cells {w1 w : World} {B1 : Nat} {vr : Value} {x : PF} {xs : List PF} {N : Nat} (h : PInv w1 w B1 vr (x :: xs)) (hN : xs.length = N) : ∃ go cr, vr = .slice (some ⟨go, 0, none⟩) (N + 1) cr ∧
    w.cell? ⟨go, N * 2, none⟩ = some x.iv ∧ w.cell? ⟨go, N * 2 + 1, none⟩ = some x.bv ∧ w.frozen? ⟨go, N * 2, none⟩ = false ∧ w.frozen? ⟨go, N * 2 + 1, none⟩ = false ∧ N + 1 ≤ cr := by
  obtain ⟨oa, cr, hvr⟩ := h.row.slice
  have hrl : (x :: xs).reverse.length = N + 1 := by simp [hN]
  rw [hrl] at hvr
  subst hvr
  obtain ⟨go, rfl, _, _, _, hcap, hcell, hfz⟩ := OwnG.at_ h.row pf2_len (i := N) (y := x) (by simp [← hN])
  exact ⟨go, cr, rfl, hcell 0 (by decide), hcell 1 (by decide), hfz _, hfz _, hcap⟩
theorem rev_at {α : Type} {x : α} {xs : List α} {N : Nat} (hN : xs.length = N) : (x :: xs).reverse[N]? = some x := by simp [← hN]
theorem rev_set {α : Type} {x y : α} {xs : List α} {N : Nat} (hN : xs.length = N) : (x :: xs).reverse.set N y = (y :: xs).reverse := by simp [← hN]
section
variable {w1 w w2 : World} {B1 : Nat} {x : PF} {xs : List PF} {N go cr : Nat}
theorem go_blk (h : OwnG pf2 2 w B1 LT (.slice (some ⟨go, 0, none⟩) (N + 1) cr) (x :: xs).reverse) : B1 ≤ go ∧ ∃ cs, Blk w go cs LT := by
  obtain ⟨a, _, b⟩ := h.block go rfl
  exact ⟨a, b⟩
theorem u8_ne {go c : Nat} {cs cs' : Array Value} (h : Blk w go cs LT) (h2 : Blk w c cs' U8) : c ≠ go := by
  rintro rfl
  unfold Blk at h h2
  rw [h2] at h
  injection h with h
  injection h with _ h _
  exact lt_ne_u8 h.symm
/-- A store to the inmost list's items. -/
theorem PInv.items (h : PInv w1 w B1 (.slice (some ⟨go, 0, none⟩) (N + 1) cr) (x :: xs)) (hN : xs.length = N) {iv : Value} {s : List (Rose IL)} (hs : ISubsQ w (fun c => c < B1) iv s) :
    PInv w1 (w.setCell ⟨go, N * 2, none⟩ iv) B1 (.slice (some ⟨go, 0, none⟩) (N + 1) cr) ({ x with iv := iv, s := s } :: xs) := by
  obtain ⟨hg, cs, hgb⟩ := go_blk h.row
  have hsz : (w.setCell ⟨go, N * 2, none⟩ iv).heap.size = w.heap.size := by simp [World.setCell]
  have hrow := h.row.set pf2_len (rev_at hN) (j := 0) (x := iv) (z := { x with iv := iv, s := s }) (by decide) rfl
  rw [rev_set hN, Nat.add_zero] at hrow
  have hfar : ∀ c, c ≠ go → (w.setCell ⟨go, N * 2, none⟩ iv).heap[c]? = w.heap[c]? := fun c hc => Below.heap_setCell _ _ _ _ hc
  have hlev := h.lev.keep (w' := w.setCell ⟨go, N * 2, none⟩ iv) (by rw [hsz]; exact Nat.le_refl _) (fun c _ hc => hfar c (by omega)) (Nat.le_refl _) fun c cs' _ hB => hfar c (u8_ne hgb hB)
  rw [← hsz] at hlev
  obtain ⟨a1, a2, a3, a4, a5, a6⟩ := hlev
  exact ⟨hrow, ⟨a1, a2, a3, a4, Shape.Subs.keep hs (by rw [hsz]; exact Nat.le_refl _) (fun _ _ h => h) fun c _ hc => hfar c (by omega), a6⟩, ⟨h.bel.os, h.bel.tape, h.bel.output, by rw [hsz]; exact h.bel.size, fun c hc => (hfar c (by omega)).trans (h.bel.block c hc)⟩, by rw [hsz]; exact h.hB⟩
/-- A store to the inmost list's bytes, which were appended to. -/
theorem PInv.bytes (h : PInv w1 w B1 (.slice (some ⟨go, 0, none⟩) (N + 1) cr) (x :: xs)) (hN : xs.length = N) {bv : Value} {l : List UInt8} (hown : OwnB w2 x.B U8 bv l) (hsz2 : w.heap.size ≤ w2.heap.size)
    (hos : w2.os = w.os ∧ w2.tape = w.tape ∧ w2.output = w.output) (hk : ∀ c, c < w.heap.size → (c < x.B ∨ ∃ cs, Blk w c cs LT) → w2.heap[c]? = w.heap[c]?) :
    PInv w1 (w2.setCell ⟨go, N * 2 + 1, none⟩ bv) B1 (.slice (some ⟨go, 0, none⟩) (N + 1) cr) ({ x with bv := bv, l := l } :: xs) := by
  obtain ⟨hg, cs, hgb⟩ := go_blk h.row
  obtain ⟨a1, a2, a3, a4, a5, a6⟩ := h.lev
  have hgb2 : Blk w2 go cs LT := by unfold Blk; rw [hk go hgb.lt (.inr ⟨cs, hgb⟩)]; exact hgb
  have hrow2 : OwnG pf2 2 w2 B1 LT (.slice (some ⟨go, 0, none⟩) (N + 1) cr) (x :: xs).reverse := h.row.keep fun b hb => by
    simp [Value.ownBlock] at hb
    subst hb
    exact hk _ hgb.lt (.inr ⟨cs, hgb⟩)
  have hsz : (w2.setCell ⟨go, N * 2 + 1, none⟩ bv).heap.size = w2.heap.size := by simp [World.setCell]
  have hrow := hrow2.set pf2_len (rev_at hN) (j := 1) (x := bv) (z := { x with bv := bv, l := l }) (by decide) rfl
  rw [rev_set hN] at hrow
  have hfar : ∀ c, c ≠ go → (w2.setCell ⟨go, N * 2 + 1, none⟩ bv).heap[c]? = w2.heap[c]? := fun c hc => Below.heap_setCell _ _ _ _ hc
  refine ⟨hrow, ⟨a1, (by show x.B ≤ _; rw [hsz]; omega), hown.keep fun b cs' _ hB => hfar b (u8_ne hgb2 hB), fun b hb => ?_, ?_, ?_⟩, ?_, by rw [hsz]; have := h.hB; omega⟩
  · obtain ⟨_, cs', hB⟩ := hown.form b hb
    rw [hsz]; exact hB.lt
  · exact Shape.Subs.keep a5 (by rw [hsz]; exact hsz2) (fun _ _ h => h) fun c hc hq => (hfar c (by omega)).trans (hk c hc (.inl (by omega)))
  · exact a6.keep (by rw [hsz]; exact hsz2) (fun c hc hq => (hfar c (by omega)).trans (hk c hc (.inl (by omega)))) (Nat.le_refl _) fun c cs' hc hB => (hfar c (u8_ne hgb hB)).trans (hk c hB.lt (.inl hc))
  · refine ⟨hos.1.trans h.bel.os, hos.2.1.trans h.bel.tape, hos.2.2.trans h.bel.output, by rw [hsz]; exact Nat.le_trans h.bel.size hsz2, fun c hc => (hfar c (by omega)).trans ((hk c (by have := h.hB; omega) (.inl (by omega))).trans (h.bel.block c hc))⟩
/-- A list is opened: the row behind it. -/
theorem PInv.push {vr : Value} {st : List PF} {wA w' : World} {g cap : Nat} {f : PF} (h : PInv w1 w B1 vr st) (hA : Below w.heap.size w wA) (hrow : OwnG pf2 2 w' B1 LT (.slice (some ⟨g, 0, none⟩) (st.length + 1) cap) (st.reverse ++ [f])) (hg : wA.grownBy w' vr.ownBlock)
    (hs : ISubsQ w (fun c => c < B1) f.iv f.s) (hf : f.bv = .slice none 0 0 ∧ f.l = [] ∧ f.B = w'.heap.size) : PInv w1 w' B1 (.slice (some ⟨g, 0, none⟩) (st.length + 1) cap) (f :: st) := by
  have hsz : w.heap.size ≤ w'.heap.size := Nat.le_trans hA.size hg.size
  have hvr : ∀ b, vr.ownBlock = some b → B1 ≤ b ∧ ∃ cs, Blk w b cs LT := fun b hb => by obtain ⟨a, _, b⟩ := h.row.block b hb; exact ⟨a, b⟩
  have hk : ∀ c, c < w.heap.size → vr.ownBlock ≠ some c → w'.heap[c]? = w.heap[c]? := fun c hc hv => (hg.block c (Nat.lt_of_lt_of_le hc hA.size) (fun e => hv e.symm)).trans (hA.block c hc)
  have h1 : ∀ c, c < w.heap.size → c < B1 → w'.heap[c]? = w.heap[c]? := fun c hc hq => hk c hc fun e => by have := (hvr c e).1; omega
  have hB := h.hB
  refine ⟨by rw [List.reverse_cons]; exact hrow, ⟨by rw [hf.2.2]; omega, by rw [hf.2.2]; exact Nat.le_refl _, by rw [hf.1, hf.2.1]; exact OwnB.nil _ _ _, fun b hb => by rw [hf.1] at hb; simp [Value.ownBlock] at hb, Shape.Subs.keep hs hsz (fun _ _ h => h) h1, ?_⟩, ?_, by omega⟩
  · rw [hf.2.2]
    exact h.lev.keep hsz h1 hsz fun c cs' hc hB' => hk c hc fun e => by
      obtain ⟨_, cs, hL⟩ := hvr c e
      exact u8_ne hL hB' rfl
  · exact ⟨hg.os.trans (hA.os.trans h.bel.os), hg.tape.trans (hA.tape.trans h.bel.tape), hg.output.trans (hA.output.trans h.bel.output), Nat.le_trans h.bel.size hsz, fun c hc => (h1 c (by omega) hc).trans (h.bel.block c hc)⟩
/-- The inmost list is taken off. -/
theorem PInv.pop (h : PInv w1 w B1 (.slice (some ⟨go, 0, none⟩) (N + 1) cr) (x :: xs)) (hN : xs.length = N) : PInv w1 w B1 (.slice (some ⟨go, 0, none⟩) N cr) xs := by
  obtain ⟨a1, a2, a3, a4, a5, a6⟩ := h.lev
  refine ⟨?_, a6.keep (Nat.le_refl _) (fun _ _ _ => rfl) a2 fun _ _ _ _ => rfl, h.bel, h.hB⟩
  have := OwnG.cut h.row pf2_len (m := N) (by simp [hN])
  have e : (x :: xs).reverse.take N = xs.reverse := by
    rw [List.reverse_cons, List.take_append_of_le_length (by simp [hN]), List.take_of_length_le (by simp [hN])]
  rwa [e] at this
end

theorem PInv.below {w1 w w' : World} {B1 : Nat} {vr : Value} {st : List PF} (h : PInv w1 w B1 vr st) (hb : Below w.heap.size w w') : PInv w1 w' B1 vr st :=
  ⟨h.row.below hb, h.lev.keep hb.size (fun c hc _ => hb.block c hc) hb.size (fun c cs _ hB => hb.block c hB.lt), h.bel.trans (hb.mono h.hB), Nat.le_trans h.hB hb.size⟩

/-! ### What the stack is worth -/
def pup : List PF → List UInt8 → List UInt8
  | [], b => b
  | x :: xs, b => pup xs (x.l ++ (hdr 192 b.length ++ b) ++ encL x.s)
def pfin : List PF → List UInt8
  | [] => []
  | x :: xs => pup xs (x.l ++ encL x.s)
theorem pup_le : ∀ (st : List PF) (b : List UInt8), b.length ≤ (pup st b).length ∧ ∀ x, x ∈ st → x.l.length ≤ (pup st b).length
  | [], b => ⟨Nat.le_refl _, fun x h => by cases h⟩
  | x :: xs, b => by
    obtain ⟨h1, h2⟩ := pup_le xs (x.l ++ (hdr 192 b.length ++ b) ++ encL x.s)
    simp only [List.length_append] at h1
    refine ⟨by simp only [pup]; omega, fun y hy => ?_⟩
    rcases List.mem_cons.1 hy with rfl | hy
    · simp only [pup]; omega
    · exact h2 y hy
theorem pfin_le {x : PF} {xs : List PF} : x.l.length + (encL x.s).length ≤ (pfin (x :: xs)).length ∧ ∀ y, y ∈ xs → y.l.length ≤ (pfin (x :: xs)).length := by
  obtain ⟨h1, h2⟩ := pup_le xs (x.l ++ encL x.s)
  simp only [List.length_append] at h1
  exact ⟨h1, h2⟩
/-- The measure. -/
def pmeas (st : List PF) : Nat := (st.map fun x => 2 * Rose.countL x.s).sum + st.length
theorem least_ex {P : Nat → Prop} : ∀ n, P n → ∃ m, P m ∧ ∀ k, P k → m ≤ k := by
  intro n
  induction n using Nat.strongRecOn with
  | _ n ih =>
    intro h
    rcases Classical.em (∃ k, k < n ∧ P k) with ⟨k, hk, hp⟩ | hn
    · exact ih k hk hp
    · exact ⟨n, h, fun k hp => by
        rcases Nat.lt_or_ge k n with h' | h'
        · exact absurd ⟨k, h', hp⟩ hn
        · exact h'⟩
theorem least_fn {α : Type} (P : α → Nat → Prop) : ∃ m : α → Nat, ∀ a n, P a n → P a (m a) ∧ m a ≤ n := by
  have h : ∀ a, ∃ m, ∀ n, P a n → P a m ∧ m ≤ n := fun a => by
    rcases Classical.em (∃ n, P a n) with ⟨n, hn⟩ | hn
    · obtain ⟨m, h1, h2⟩ := least_ex n hn
      exact ⟨m, fun k hk => ⟨h1, h2 k hk⟩⟩
    · exact ⟨0, fun k hk => absurd ⟨k, hk⟩ hn⟩
  obtain ⟨f, hf⟩ := Classical.axiomOfChoice h
  exact ⟨f, hf⟩
end Go.Proofs.Ytopfpfpefljkkaa
