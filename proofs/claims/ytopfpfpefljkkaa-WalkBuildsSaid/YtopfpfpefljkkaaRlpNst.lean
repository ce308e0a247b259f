/- rlp.Next: its state, and what turns it. -/
import Derived.Test.YtopfpfpefljkkaaRlpAdd
import Derived.Test.YtopfpfpefljkkaaRlpHead
namespace Go.Proofs.Ytopfpfpefljkkaa
open Go.RowKit
set_option linter.unusedVariables false
set_option linter.unusedSimpArgs false

def lvl (x : Fr) : List (Rose IL) × Nat := (x.L.map Elt.tree, x.e)
/-- The ends of the open lists, the inmost first. -/
def Ends : Nat → List Fr → Nat → Prop
  | p, [], S => p ≤ S
  | p, x :: xs, S => p ≤ x.e ∧ Ends x.e xs S
theorem Ends.le : ∀ {st : List Fr} {p S : Nat}, Ends p st S → p ≤ S
  | [], _, _, h => h
  | x :: xs, _, _, h => Nat.le_trans h.1 (Ends.le h.2)
def zero3 : Array Value := #[.string ⟨#[]⟩, .bool false, .slice none 0 0]
abbrev RdR : Type := Except Nat (Rose IL × Nat × Nat)
/-- What is to come of the state. -/
def NRes (s : List UInt8) (K M : Nat) (R : RdR) (B bo bw : Nat) (vr : Value) (w : World) (p c : Nat) : List Fr → Prop
  | [] => ∃ (x : Rose IL) (v : Value) (Qx : Nat → Prop), R = .ok (x, p, M - c) ∧ Blk w bw #[.string (txt x.lab), .bool x.lab.list, v] IT ∧ ISubsQ w Qx v x.sub ∧ (∀ c, Qx c → ¬ avo B bo bw vr c)
  | x :: xs => Blk w bw zero3 IT ∧ R = cont s (x.L.map Elt.tree) x.e (xs.map lvl) (K - (xs.length + 1)) p (M - c)
structure NSt (s : List UInt8) (K M : Nat) (R : RdR) (B bo bw : Nat) (w0 w : World) (p c : Nat) (vr : Value) (st : List Fr) : Prop where
  stk : StkAt w B bo bw vr st
  below : Below B w0 w
  hc : c ≤ M
  len : st.length ≤ K
  Ls : (st.map fun x => x.L.length).sum + st.length ≤ c
  ends : Ends p st s.length
  res : NRes s K M R B bo bw vr w p c st

theorem rt_row : RowTypes Try.prog 60 RT 2 := ⟨Try.underlying60, ⟨.agg #[.slice none 0 0, .int .i64 0], 32, by
  obtain ⟨i, h1, h2, h3, h4⟩ := info_parts (show (Try.prog.info? RT).map (fun i => (i.zero, i.size, i.bytes)) = some (some (.agg #[.slice none 0 0, .int .i64 0]), 2, 32) by kernel_rfl)
  exact ⟨i, h1, h2, h3, h4, by decide, rfl⟩⟩, by decide⟩

/-- A list is opened: the row behind it, stored. -/
theorem stk_push {w w1 w2 : World} {B bo bw g cap : Nat} {vr : Value} {st : List Fr} {f : Fr} (h : StkAt w B bo bw vr st) (hw : Below w.heap.size w w1) (hf : f.v = .slice none 0 0 ∧ f.L = [])
    (hrow : OwnG rf2 2 w2 B RT (.slice (some ⟨g, 0, none⟩) (st.length + 1) cap) (st.reverse ++ [f])) (hg : w1.grownBy w2 vr.ownBlock) (hat : vr.ownBlock = some g ∨ g = w1.heap.size) :
    StkAt (w2.setCell ⟨bo, 0, none⟩ (.slice (some ⟨g, 0, none⟩) (st.length + 1) cap)) B bo bw (.slice (some ⟨g, 0, none⟩) (st.length + 1) cap) (f :: st) ∧
      Below B w (w2.setCell ⟨bo, 0, none⟩ (.slice (some ⟨g, 0, none⟩) (st.length + 1) cap)) ∧
      ∀ c, c < w.heap.size → c ≠ bo → vr.ownBlock ≠ some c → (w2.setCell ⟨bo, 0, none⟩ (.slice (some ⟨g, 0, none⟩) (st.length + 1) cap)).heap[c]? = w.heap[c]? := by
  have hsz1 := hw.size
  have hsz2 := hg.size
  have hfar : ∀ c, c < w.heap.size → c ≠ bo → vr.ownBlock ≠ some c → (w2.setCell ⟨bo, 0, none⟩ (.slice (some ⟨g, 0, none⟩) (st.length + 1) cap)).heap[c]? = w.heap[c]? := fun c hc hn hv =>
    (Below.heap_setCell _ _ _ _ hn).trans ((hg.block c (by omega) (fun e => hv e.symm)).trans (hw.block c hc))
  have hbo1 : Blk w1 bo #[vr] OT := Below.blk hw h.ho h.ho.lt
  have hbo2 : Blk w2 bo #[vr] OT := by
    unfold Blk
    rw [hg.block bo hbo1.lt (fun e => h.nbo e.symm)]; exact hbo1
  have hgb : g ≠ bo := by
    rintro rfl
    rcases hat with e | e
    · exact h.nbo e
    · have := hbo1.lt; omega
  have hgbw : g ≠ bw := by
    rintro rfl
    rcases hat with e | e
    · exact h.nbw e
    · have := h.lt; omega
  have hsz : (w2.setCell ⟨bo, 0, none⟩ (.slice (some ⟨g, 0, none⟩) (st.length + 1) cap)).heap.size = w2.heap.size := by simp [World.setCell]
  refine ⟨⟨hbo2.set 0 _, ?_, ?_, ?_, ⟨fun _ => False, fun c hc => hc.elim, ?_, ?_⟩, h.hbo, h.hbw, h.ne, by rw [hsz]; exact Nat.lt_of_lt_of_le h.lt (by omega)⟩, ?_, hfar⟩
  · rw [List.reverse_cons]
    exact hrow.keep fun b hb => by
      simp [Value.ownBlock] at hb
      exact Below.heap_setCell _ _ _ _ (by show b ≠ bo; exact hb ▸ hgb)
  · intro e; simp [Value.ownBlock] at e; exact hgb e
  · intro e; simp [Value.ownBlock] at e; exact hgbw e
  · rw [hf.1, hf.2]; exact OwnI.nil _ _
  · refine h.lev.keep (by rw [hsz]; omega) (fun c hc hn => hfar c hc (fun e => hn (.inr (.inl e))) fun e => hn (.inr (.inr (.inr e)))) fun c hc hn => ?_
    rcases hn with (hn | hn | hn | hn) | hn
    · exact .inl hn
    · exact .inr (.inl hn)
    · exact .inr (.inr (.inl hn))
    · simp [Value.ownBlock] at hn
      subst hn
      rcases hat with e | e
      · exact .inr (.inr (.inr e))
      · omega
    · exact hn.elim
  · refine ⟨?_, ?_, ?_, by rw [hsz]; omega, fun c hc => ?_⟩
    · exact hg.os.trans hw.os
    · exact hg.tape.trans hw.tape
    · exact hg.output.trans hw.output
    · have hcl : c < w.heap.size := by have := h.hbo; have := h.ho.lt; omega
      refine hfar c hcl (by have := h.hbo; omega) fun e => ?_
      have := (h.row.block c e).1
      omega

/-- The inmost list is taken off. -/
theorem stk_pop {w : World} {B bo bw go cr N : Nat} {x : Fr} {xs : List Fr} (h : StkAt w B bo bw (.slice (some ⟨go, 0, none⟩) (N + 1) cr) (x :: xs)) (hN : xs.length = N) :
    ∃ Q : Nat → Prop, StkAt (w.setCell ⟨bo, 0, none⟩ (.slice (some ⟨go, 0, none⟩) N cr)) B bo bw (.slice (some ⟨go, 0, none⟩) N cr) xs ∧ OwnI (w.setCell ⟨bo, 0, none⟩ (.slice (some ⟨go, 0, none⟩) N cr)) Q x.v x.L ∧
      (∀ c, Q c → ¬ avo B bo bw (.slice (some ⟨go, 0, none⟩) N cr) c) ∧ Levs (w.setCell ⟨bo, 0, none⟩ (.slice (some ⟨go, 0, none⟩) N cr)) (fun c => avo B bo bw (.slice (some ⟨go, 0, none⟩) N cr) c ∨ Q c) xs ∧
      Below B w (w.setCell ⟨bo, 0, none⟩ (.slice (some ⟨go, 0, none⟩) N cr)) ∧ (∀ c, c ≠ bo → (w.setCell ⟨bo, 0, none⟩ (.slice (some ⟨go, 0, none⟩) N cr)).heap[c]? = w.heap[c]?) := by
  obtain ⟨Q, hq1, hq2, hq3⟩ := h.lev
  have hsz : (w.setCell ⟨bo, 0, none⟩ (.slice (some ⟨go, 0, none⟩) N cr)).heap.size = w.heap.size := by simp [World.setCell]
  have hfar : ∀ c, c ≠ bo → (w.setCell ⟨bo, 0, none⟩ (.slice (some ⟨go, 0, none⟩) N cr)).heap[c]? = w.heap[c]? := fun c hn => Below.heap_setCell _ _ _ _ hn
  have hav : ∀ c, avo B bo bw (.slice (some ⟨go, 0, none⟩) N cr) c ↔ avo B bo bw (.slice (some ⟨go, 0, none⟩) (N + 1) cr) c := fun c => Iff.rfl
  have hQbo : ∀ c, Q c → c ≠ bo := fun c hc e => hq1 c hc (.inr (.inl e))
  have hlev : Levs (w.setCell ⟨bo, 0, none⟩ (.slice (some ⟨go, 0, none⟩) N cr)) (fun c => avo B bo bw (.slice (some ⟨go, 0, none⟩) N cr) c ∨ Q c) xs :=
    hq3.keep (by rw [hsz]; exact Nat.le_refl _) (fun c _ hn => hfar c fun e => hn (.inl (.inr (.inl e)))) fun c _ hn => hn
  have hgb : go ≠ bo := fun e => h.nbo (by subst e; rfl)
  refine ⟨Q, ⟨h.ho.set 0 _, ?_, h.nbo, h.nbw, hlev.keep (Nat.le_refl _) (fun _ _ _ => rfl) fun c _ hn => .inl hn, h.hbo, h.hbw, h.ne, by rw [hsz]; exact h.lt⟩, ?_, fun c hc => hq1 c hc, hlev, ?_, hfar⟩
  · have := (OwnG.cut h.row rf2_len (m := N) (by simp [hN])).keep (w' := w.setCell ⟨bo, 0, none⟩ (.slice (some ⟨go, 0, none⟩) N cr)) fun b hb => by
      simp [Value.ownBlock] at hb
      exact hfar b (by rw [← hb]; exact hgb)
    have e : (x :: xs).reverse.take N = xs.reverse := by
      rw [List.reverse_cons, List.take_append_of_le_length (by simp [hN]), List.take_of_length_le (by simp [hN])]
    rwa [e] at this
  · exact hq2.keep (by rw [hsz]; exact Nat.le_refl _) (fun c _ hc => hfar c (hQbo c hc)) fun c _ hc => hc
  · exact ⟨rfl, rfl, rfl, by rw [hsz]; exact Nat.le_refl _, fun c hc => hfar c (by have := h.hbo; omega)⟩

theorem subs_cap {w : World} {Q : Nat → Prop} {o : Option Addr} {n c : Nat} {s : List (Rose IL)} (h : ISubsQ w Q (.slice o n c) s) : ISubsQ w Q (.slice o n n) s := by
  obtain ⟨oa, cap, e, h1, h2, h3⟩ := h
  cases e
  exact ⟨_, _, rfl, Nat.le_refl _, Nat.le_trans h1 h2, h3⟩

section
variable {s : List UInt8} {K M : Nat} {R : RdR} {B bo bw : Nat} {w0 w w' : World} {p c : Nat} {vr : Value}

/-- The head of the next item within a list: an error. -/
theorem NSt.err {x : Fr} {xs : List Fr} (h : NSt s K M R B bo bw w0 w p c vr (x :: xs)) (hp : p < x.e) {er : Nat} (hd' : hdx (seg s p x.e) (decide (K ≤ (x :: xs).length)) (decide (M ≤ c)) = .error er) : R = .error (if er = 2 then 3 else er) := by
  rw [h.res.2]
  refine cont_err hp (Ends.le h.ends.2) (hdx_rdI ?_)
  rw [← hd']
  congr 1
  · rw [decide_eq_decide]; have := h.len; simp at this ⊢; omega
  · rw [decide_eq_decide]; have := h.hc; omega
theorem NSt.head {x : Fr} {xs : List Fr} (h : NSt s K M R B bo bw w0 w p c vr (x :: xs)) (hp : p < x.e) {q : Bool × Nat × Nat} (hd' : hdx (seg s p x.e) (decide (K ≤ (x :: xs).length)) (decide (M ≤ c)) = .ok q) :
    (x :: xs).length < K ∧ c < M ∧ hd (seg s p x.e) = .ok q ∧ q.2.1 + q.2.2 ≤ x.e - p ∧ 0 < q.2.1 + q.2.2 ∧ x.e ≤ s.length := by
  have he := Ends.le h.ends.2
  have e1 : decide (K ≤ (x :: xs).length) = decide (K - (x :: xs).length = 0) := by rw [decide_eq_decide]; omega
  have e2 : decide (M ≤ c) = decide (M - c = 0) := by rw [decide_eq_decide]; omega
  rw [e1, e2] at hd'
  obtain ⟨h1, h2, h3, h4⟩ := hdx_ok hd'
  obtain ⟨i1, i2, _⟩ := hd_inv h4
  rw [seg_length s (by omega) he] at i1
  exact ⟨by omega, by omega, h4, i1, i2, he⟩
/-- A text was put there. -/
theorem NSt.text {x : Fr} {xs : List Fr} (h : NSt s K M R B bo bw w0 w p c vr (x :: xs)) (hp : p < x.e) {z n : Nat} (hd' : hdx (seg s p x.e) (decide (K ≤ (x :: xs).length)) (decide (M ≤ c)) = .ok (false, z, n)) {v' : Value} {y : Elt IL}
    (hy : y.tree = .node ⟨seg s (p + z) (p + z + n), false⟩ []) (hs : StkAt w' B bo bw vr (⟨v', x.L ++ [y], x.e⟩ :: xs)) (hb : Blk w' bw zero3 IT) (hw : Below B w w') :
    NSt s K M R B bo bw w0 w' (p + z + n) (c + 1) vr (⟨v', x.L ++ [y], x.e⟩ :: xs) := by
  obtain ⟨h1, h2, h3, h4, h5, h6⟩ := h.head hp hd'
  simp only at h4 h5
  refine ⟨hs, h.below.trans hw, by omega, h.len, by have := h.Ls; simp at this ⊢; omega, ⟨by show p + z + n ≤ x.e; omega, h.ends.2⟩, hb, ?_⟩
  · rw [h.res.2]
    simp only [List.length_cons] at h1
    obtain ⟨k, hk⟩ : ∃ k, K - (xs.length + 1) = k + 1 := ⟨K - (xs.length + 1) - 1, by omega⟩
    obtain ⟨m, hm⟩ : ∃ m, M - c = m + 1 := ⟨M - c - 1, by omega⟩
    rw [hk, hm, cont_text hp h6 h3 h4, show M - (c + 1) = m by omega]
    simp [hy]
/-- A list was opened. -/
theorem NSt.list {x : Fr} {xs : List Fr} (h : NSt s K M R B bo bw w0 w p c vr (x :: xs)) (hp : p < x.e) {z n : Nat} (hd' : hdx (seg s p x.e) (decide (K ≤ (x :: xs).length)) (decide (M ≤ c)) = .ok (true, z, n)) {v' vr' : Value}
    (hs : StkAt w' B bo bw vr' (⟨v', [], p + z + n⟩ :: x :: xs)) (hb : Blk w' bw zero3 IT) (hw : Below B w w') :
    NSt s K M R B bo bw w0 w' (p + z) (c + 1) vr' (⟨v', [], p + z + n⟩ :: x :: xs) := by
  obtain ⟨h1, h2, h3, h4, h5, h6⟩ := h.head hp hd'
  simp only at h4 h5
  refine ⟨hs, h.below.trans hw, by omega, by simp only [List.length_cons] at h1 ⊢; omega, by have := h.Ls; simp at this ⊢; omega, ⟨by show p + z ≤ p + z + n; omega, by show p + z + n ≤ x.e; omega, h.ends.2⟩, hb, ?_⟩
  · rw [h.res.2]
    simp only [List.length_cons] at h1
    obtain ⟨k, hk⟩ : ∃ k, K - (xs.length + 1) = k + 1 := ⟨K - (xs.length + 1) - 1, by omega⟩
    obtain ⟨m, hm⟩ : ∃ m, M - c = m + 1 := ⟨M - c - 1, by omega⟩
    rw [hk, hm, cont_list hp h6 h3 h4, show M - (c + 1) = m by omega, show K - ((x :: xs).length + 1) = k by simp; omega]
    rfl
/-- The inmost list, at its end, was put to the others of the list around it. -/
theorem NSt.close {x x2 : Fr} {xs : List Fr} (h : NSt s K M R B bo bw w0 w p c vr (x :: x2 :: xs)) (hp : x.e = p) {v' vr' : Value} {y : Elt IL} (hy : y.tree = .node ⟨[], true⟩ (x.L.map Elt.tree))
    (hs : StkAt w' B bo bw vr' (⟨v', x2.L ++ [y], x2.e⟩ :: xs)) (hb : Blk w' bw zero3 IT) (hw : Below B w w') : NSt s K M R B bo bw w0 w' p c vr' (⟨v', x2.L ++ [y], x2.e⟩ :: xs) := by
  subst hp
  refine ⟨hs, h.below.trans hw, h.hc, by have := h.len; simp at this ⊢; omega, by have := h.Ls; simp at this ⊢; omega, ⟨h.ends.2.1, h.ends.2.2⟩, hb, ?_⟩
  · rw [h.res.2, cont_close]
    show fin s ((x2.L.map Elt.tree, x2.e) :: xs.map lvl) _ _ _ _ = _
    rw [fin_cons]
    have := h.len
    simp only [List.length_cons] at this ⊢
    rw [show K - (xs.length + 1 + 1) + 1 = K - (xs.length + 1) by omega]
    simp [hy]
/-- The outmost list, at its end, is the whole. -/
theorem NSt.whole {x : Fr} (h : NSt s K M R B bo bw w0 w p c vr [x]) (hp : x.e = p) {vr' v : Value} {Qx : Nat → Prop}
    (hs : StkAt w' B bo bw vr' []) (hb : Blk w' bw #[.string ⟨#[]⟩, .bool true, v] IT) (hv : ISubsQ w' Qx v (x.L.map Elt.tree)) (hQ : ∀ c, Qx c → ¬ avo B bo bw vr' c) (hw : Below B w w') : NSt s K M R B bo bw w0 w' p c vr' [] := by
  subst hp
  refine ⟨hs, h.below.trans hw, h.hc, by simp, by simp, Ends.le h.ends.2, ?_⟩
  refine ⟨Rose.node ⟨[], true⟩ (x.L.map Elt.tree), v, Qx, ?_, hb, hv, hQ⟩
  rw [h.res.2, cont_close]
  rfl
end
end Go.Proofs.Ytopfpfpefljkkaa
