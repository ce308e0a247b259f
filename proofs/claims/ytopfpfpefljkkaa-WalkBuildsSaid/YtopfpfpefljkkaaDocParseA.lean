/- The document's parse of tokens: its loop, plainly. -/
import Derived.Test.YtopfpfpefljkkaaBuildA
import Derived.Test.YtopfpfpefljkkaaWalkA
import Derived.Test.YtopfpfpefljkkaaRlpGets
namespace Go.Proofs.Ytopfpfpefljkkaa
open Go.RowKit
set_option linter.unusedVariables false
set_option linter.unusedSimpArgs false

/-- What parse tells: the item, and the place behind it. -/
def ParsePost (T : List Tk) (R : Option (Rose IL × List Tk)) (w : World) (e : Ending) (w' : World) : Prop := match R with
  | none => e = .returned (.tuple #[.agg #[.string ⟨#[]⟩, .bool false, .slice none 0 0], .int .i64 (-1)]) ∧ Below w.heap.size w w'
  | some y => ∃ o c, e = .returned (.tuple #[.agg #[.string (txt y.1.lab), .bool y.1.lab.list, .slice o y.1.sub.length c], .int .i64 ((T.length - y.2.length : Nat) : Int)]) ∧ ISubsQ w' (fun c => w.heap.size ≤ c) (.slice o y.1.sub.length c) y.1.sub ∧ y.1.lab.text.length ≤ maxLen ∧ Below w.heap.size w w'
theorem parse_no {T : List Tk} {R : Option (Rose IL × List Tk)} {w w' : World} (h : R = none) (hb : Below w.heap.size w w') : ParsePost T R w (.returned (.tuple #[.agg #[.string ⟨#[]⟩, .bool false, .slice none 0 0], .int .i64 (-1)])) w' := by
  rw [h]; exact ⟨rfl, hb⟩

/-- An element is put behind the others of a row that is owned. -/
theorem OwnI.app {w w2 : World} {Q Qx : Nat → Prop} {v : Value} {L : List (Elt IL)} {x : Elt IL} {g cap : Nat} (h : OwnI w Q v L)
    (hrow : OwnG itf 3 w2 0 IT (.slice (some ⟨g, 0, none⟩) (L.length + 1) cap) (L ++ [x])) (hg : w.grownBy w2 v.ownBlock) (hat : v.ownBlock = some g ∨ w.heap.size ≤ g)
    (hx : ISubsQ w Qx x.u x.sub) (hxv : ∀ c, Qx c → v.ownBlock ≠ some c) (hxl : x.lab.text.length ≤ maxLen) :
    OwnI w2 (fun c => Q c ∨ Qx c ∨ c = g) (.slice (some ⟨g, 0, none⟩) (L.length + 1) cap) (L ++ [x]) := by
  have hgn : ∀ c, c < w.heap.size → v.ownBlock ≠ some c → c ≠ g := fun c hc hv e => by
    rcases hat with hat | hat
    · exact hv (by rw [hat, e])
    · omega
  refine ⟨hrow, fun b hb => ?_, fun y hy => ?_⟩
  · simp [Value.ownBlock] at hb
    exact .inr (.inr hb.symm)
  · rcases List.mem_append.1 hy with hy | hy
    · refine ⟨(h.2.2 y hy).1, Shape.Subs.keep (h.2.2 y hy).2 hg.size (fun c hc hq => ⟨.inl hq.1, ?_⟩) fun c hc hq => hg.block c hc fun e => hq.2 e.symm⟩
      intro e
      simp [Value.ownBlock] at e
      exact hgn c hc hq.2 e.symm
    · simp at hy
      subst hy
      refine ⟨hxl, Shape.Subs.keep hx hg.size (fun c hc hq => ⟨.inr (.inl hq), ?_⟩) fun c hc hq => hg.block c hc fun e => hxv c hq e.symm⟩
      intro e
      simp [Value.ownBlock] at e
      exact hgn c hc (hxv c hq) e.symm
theorem drop_suffix {α : Type} {T p l : List α} {a : Nat} (h : T.drop a = p ++ l) : T.drop (T.length - l.length) = l := by
  have h1 : T = T.take a ++ (p ++ l) := by rw [← h, List.take_append_drop]
  have h2 : T = (T.take a ++ p) ++ l := by rw [List.append_assoc]; exact h1
  have hl : T.length - l.length = (T.take a ++ p).length := by
    have := congrArg List.length h2
    rw [List.length_append] at this
    omega
  rw [hl]
  have h3 : ((T.take a ++ p) ++ l).drop (T.take a ++ p).length = l := List.drop_left
  rw [← h2] at h3
  exact h3

/-- The loop of parse: the result's block, the item's block. -/
structure PLp (g : Nat) (w0 w : World) (v : Value) (L : List (Elt IL)) : Prop where
  out : Blk w (g + 1) #[.string ⟨#[]⟩, .bool true, v] IT
  res : Blk w g #[.string ⟨#[]⟩, .bool false, .slice none 0 0] IT
  own : OwnI w (fun c => g + 2 ≤ c) v L
  bel : Below g w0 w
section
variable {g : Nat} {w0 w : World} {v : Value} {L : List (Elt IL)}
theorem PLp.below {w' : World} (h : PLp g w0 w v L) (hb : Below w.heap.size w w') : PLp g w0 w' v L :=
  ⟨Below.blk hb h.out h.out.lt, Below.blk hb h.res h.res.lt, h.own.keep hb.size (fun c hc _ => hb.block c hc) (fun _ _ h => h), h.bel.trans (hb.mono (by have := h.res.lt; omega))⟩
theorem PLp.next {w4 w5 : World} {gg cap : Nat} {x : Elt IL} (h : PLp g w0 w v L) (hw : Below w.heap.size w w4) (hx : ISubsQ w4 (fun c => w.heap.size ≤ c) x.u x.sub)
    (hrow : OwnG itf 3 w5 0 IT (.slice (some ⟨gg, 0, none⟩) (L.length + 1) cap) (L ++ [x])) (hg : w4.grownBy w5 v.ownBlock) (hat : v.ownBlock = some gg ∨ gg = w4.heap.size) (hxl : x.lab.text.length ≤ maxLen) :
    PLp g w0 (w5.setCell ⟨g + 1, 2, none⟩ (.slice (some ⟨gg, 0, none⟩) (L.length + 1) cap)) (.slice (some ⟨gg, 0, none⟩) (L.length + 1) cap) (L ++ [x]) := by
  have h4 := h.below hw
  have hvlt : ∀ b, v.ownBlock = some b → b < w.heap.size ∧ g + 2 ≤ b := fun b hb => ⟨(h.own.1.block b hb).2.1, h.own.2.1 b hb⟩
  have hgg : g + 2 ≤ gg := by
    rcases hat with e | e
    · exact (hvlt _ e).2
    · have := h4.out.lt; omega
  have hown := OwnI.push1 h4.own hrow hg (hat.imp id fun e => by omega) hx (fun c hc e => by have := (hvlt c e).1; omega) hxl
  have hout5 : Blk w5 (g + 1) #[.string ⟨#[]⟩, .bool true, v] IT := by
    unfold Blk
    rw [hg.block (g + 1) h4.out.lt (fun e => by have := (hvlt _ e.symm).2; omega)]; exact h4.out
  have hres5 : Blk w5 g #[.string ⟨#[]⟩, .bool false, .slice none 0 0] IT := by
    unfold Blk
    rw [hg.block g h4.res.lt (fun e => by have := (hvlt _ e.symm).2; omega)]; exact h4.res
  have hfar : ∀ c, c ≠ g + 1 → (w5.setCell ⟨g + 1, 2, none⟩ (.slice (some ⟨gg, 0, none⟩) (L.length + 1) cap)).heap[c]? = w5.heap[c]? := fun c hc => Below.heap_setCell _ _ _ _ hc
  have hsz : (w5.setCell ⟨g + 1, 2, none⟩ (.slice (some ⟨gg, 0, none⟩) (L.length + 1) cap)).heap.size = w5.heap.size := by simp [World.setCell]
  refine ⟨hout5.set 2 _, by unfold Blk; rw [hfar g (by omega)]; exact hres5, hown.keep (by rw [hsz]; exact Nat.le_refl _) (fun c _ hq => hfar c ?_) (fun c _ hq => ?_), ?_⟩
  · rcases hq with hq | hq | hq
    · omega
    · have := h.out.lt; omega
    · omega
  · rcases hq with hq | hq | hq
    · exact hq
    · have := h.out.lt; show g + 2 ≤ c; omega
    · show g + 2 ≤ c; omega
  · have h5 : Below g w0 w5 := ⟨hg.os.trans h4.bel.os, hg.tape.trans h4.bel.tape, hg.output.trans h4.bel.output, Nat.le_trans h4.bel.size hg.size, fun c hc => (hg.block c (by have := h4.res.lt; omega) (fun e => by have := (hvlt _ e.symm).2; omega)).trans (h4.bel.block c hc)⟩
    refine ⟨h5.os, h5.tape, h5.output, by rw [hsz]; exact h5.size, fun c hc => (hfar c (by omega)).trans (h5.block c hc)⟩
theorem PLp.ini {w1 W : World} (hg : w0.heap.size = g) (hres : Blk w1 g #[.string ⟨#[]⟩, .bool false, .slice none 0 0] IT) (hb : Below g w0 w1) (hs : w1.heap.size = g + 1) (h : w1.alloc (.cells #[.string ⟨#[]⟩, .bool true, .slice none 0 0] IT) = W) :
    PLp g w0 W (.slice none 0 0) [] := by
  subst h
  have h2 := (Below.refl _ w1).alloc (Nat.le_refl _) (.cells #[.string ⟨#[]⟩, .bool true, .slice none 0 0] IT)
  exact ⟨hs ▸ Blk.new w1 _ _, Below.blk h2 hres hres.lt, OwnI.nil _ _, hb.trans (h2.mono (by omega))⟩
/-- Behind the append: what may be read and stored. -/
theorem PLp.cells {w4 w5 : World} (h : PLp g w0 w v L) (hw : Below w.heap.size w w4) (hg : w4.grownBy w5 v.ownBlock) : w5.cell? ⟨g + 1, 2, none⟩ = some v ∧ w5.frozen? ⟨g + 1, 2, none⟩ = false := by
  have h4 := h.below hw
  have hout5 : Blk w5 (g + 1) #[.string ⟨#[]⟩, .bool true, v] IT := by
    unfold Blk
    rw [hg.block (g + 1) h4.out.lt (fun e => by have : g + 2 ≤ g + 1 := h.own.2.1 _ e.symm; omega)]; exact h4.out
  exact ⟨hout5.cell 2, hout5.free 2⟩
end

/-- What the loop still tells, from the place a on. -/
def LQ (k : Nat) (T : List Tk) (R0 : Option (List (Rose IL) × List Tk)) (a : Nat) (acc : List (Rose IL)) : Prop := ∃ F, (T.drop a).length < F ∧ loopP (parseK k) F (T.drop a) acc = R0
theorem LQ.ini (k : Nat) (T : List Tk) (a : Nat) : LQ k T (loopP (parseK k) ((T.drop a).length + 1) (T.drop a) []) a [] := ⟨_, Nat.lt_succ_self _, rfl⟩
theorem LQ.none_left {k : Nat} {T : List Tk} {R0 : Option (List (Rose IL) × List Tk)} {a : Nat} {acc : List (Rose IL)} (h : LQ k T R0 a acc) (ha : T.length ≤ a) : R0 = some (acc, []) := by
  obtain ⟨F, h1, h2⟩ := h
  rw [List.drop_eq_nil_of_le ha] at h1 h2
  cases F with
  | zero => simp at h1
  | succ F => exact h2.symm
theorem LQ.shut {k : Nat} {T : List Tk} {R0 : Option (List (Rose IL) × List Tk)} {a : Nat} {acc : List (Rose IL)} {t : Tk} {r : List Tk} (h : LQ k T R0 a acc) (ha : T.drop a = t :: r) (ht : t.kind = 2) : R0 = some (acc, t :: r) := by
  obtain ⟨F, h1, h2⟩ := h
  rw [ha] at h1 h2
  cases F with
  | zero => simp at h1
  | succ F => simp only [loopP] at h2; rw [if_pos ht] at h2; exact h2.symm
theorem LQ.bad {k : Nat} {T : List Tk} {R0 : Option (List (Rose IL) × List Tk)} {a : Nat} {acc : List (Rose IL)} {t : Tk} {r : List Tk} (h : LQ k T R0 a acc) (ha : T.drop a = t :: r) (ht : t.kind ≠ 2) (hp : parseK k (T.drop a) = none) : R0 = none := by
  obtain ⟨F, h1, h2⟩ := h
  rw [ha] at h1 h2 hp
  cases F with
  | zero => simp at h1
  | succ F => simp only [loopP] at h2; rw [if_neg ht, hp] at h2; exact h2.symm
theorem LQ.next {k : Nat} {T : List Tk} {R0 : Option (List (Rose IL) × List Tk)} {a : Nat} {acc : List (Rose IL)} {t : Tk} {r : List Tk} {y : Rose IL × List Tk} (h : LQ k T R0 a acc) (ha : T.drop a = t :: r) (ht : t.kind ≠ 2) (hp : parseK k (T.drop a) = some y) :
    LQ k T R0 (T.length - y.2.length) (acc ++ [y.1]) ∧ a < T.length - y.2.length ∧ T.length - y.2.length ≤ T.length ∧ y.2.length ≤ T.length := by
  obtain ⟨F, h1, h2⟩ := h
  obtain ⟨yi, yl⟩ := y
  obtain ⟨hs, _, _⟩ := parse_sound _ _ _ _ hp
  have hd := drop_suffix hs
  have hl := congrArg List.length hs
  rw [List.length_append, List.length_drop] at hl
  have hpos := (toks_le yi).2
  dsimp only
  rw [ha] at h2 hp
  cases F with
  | zero => simp at h1
  | succ F =>
    simp only [loopP] at h2
    rw [if_neg ht, hp] at h2
    refine ⟨⟨F, ?_, ?_⟩, by omega, by omega, by omega⟩
    · rw [hd]; rw [List.length_drop] at h1; omega
    · rw [hd]; exact h2
theorem parse_open {k : Nat} {T r : List Tk} {a : Nat} (h : T.drop a = ⟨1, ⟨#[]⟩⟩ :: r) : parseK (k + 1) (T.drop a) = match loopP (parseK k) (r.length + 1) r [] with
      | some (s, t2 :: r2) => if t2.text.size = 0 then some (.node ⟨[], true⟩ s, r2) else none
      | _ => none := by
  rw [h]
  simp only [parseK]
  rw [if_neg (by decide), if_pos ⟨trivial, rfl⟩]
  rfl
def intN : Value → Nat
  | .int _ x => x.toNat
  | _ => 0
end Go.Proofs.Ytopfpfpefljkkaa
