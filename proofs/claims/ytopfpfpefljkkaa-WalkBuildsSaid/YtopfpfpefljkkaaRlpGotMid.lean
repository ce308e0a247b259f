/- The document's read: its loop over a list. -/
import Derived.Test.YtopfpfpefljkkaaRlpGot
namespace Go.Proofs.Ytopfpfpefljkkaa
open Go.RowKit
set_option linter.unusedVariables false
set_option linter.unusedSimpArgs false

theorem OwnI.push1 {w w1 : World} {Q Qx : Nat → Prop} {v : Value} {L : List (Elt IL)} {x : Elt IL} {g cap : Nat} (h : OwnI w Q v L)
    (hrow : OwnG itf 3 w1 0 IT (.slice (some ⟨g, 0, none⟩) (L.length + 1) cap) (L ++ [x])) (hg : w.grownBy w1 v.ownBlock) (hat : v.ownBlock = some g ∨ w.heap.size ≤ g)
    (hx : ISubsQ w Qx x.u x.sub) (hxv : ∀ c, Qx c → v.ownBlock ≠ some c) (hxl : x.lab.text.length ≤ maxLen) :
    OwnI w1 (fun c => Q c ∨ Qx c ∨ c = g) (.slice (some ⟨g, 0, none⟩) (L.length + 1) cap) (L ++ [x]) := by
  have hgn : ∀ c, c < w.heap.size → v.ownBlock ≠ some c → c ≠ g := fun c hc hv e => by
    rcases hat with hat | hat
    · exact hv (by rw [hat, e])
    · omega
  have hbl : ∀ c, c < w.heap.size → v.ownBlock ≠ some c → w1.heap[c]? = w.heap[c]? := fun c hc hv => hg.block c hc (fun e => hv e.symm)
  refine ⟨hrow, fun b hb => ?_, fun y hy => ?_⟩
  · simp [Value.ownBlock] at hb
    exact .inr (.inr hb.symm)
  · rcases List.mem_append.1 hy with hy | hy
    · refine ⟨(h.2.2 y hy).1, Shape.Subs.keep (h.2.2 y hy).2 hg.size (fun c hc hq => ⟨.inl hq.1, ?_⟩) fun c hc hq => hbl c hc hq.2⟩
      intro e
      simp [Value.ownBlock] at e
      exact hgn c hc hq.2 e.symm
    · simp at hy
      subst hy
      refine ⟨hxl, Shape.Subs.keep hx hg.size (fun c hc hq => ⟨.inr (.inl hq), ?_⟩) fun c hc hq => hbl c hc (hxv c hq)⟩
      intro e
      simp [Value.ownBlock] at e
      exact hgn c hc (hxv c hq) e.symm
/-- The list's loop. -/
structure GLp (g : Nat) (w0 w : World) (l0 : List UInt8) (k m : Nat) (tot : Int) (I : List UInt8) (v : Value) (L : List (Elt IL)) (cnt : Nat) : Prop where
  out : Blk w (g + 1) #[.string ⟨#[]⟩, .bool true, v, .int .i64 tot, .int .i64 (cnt : Nat), .int .i64 0] GT
  res : Blk w g gzero GT
  own : OwnI w (fun c => g + 2 ≤ c) v L
  bel : Below g w0 w
  eq : rdS k l0 m [] = rdS k I (m + 1 - cnt) (L.map Elt.tree)
  c1 : L.length + 1 ≤ cnt
  c2 : cnt ≤ m + 1
theorem rdL_errs {k : Nat} (h : ∀ l m er, rdI k l m = .error er → 2 ≤ er) : ∀ (f : Nat) (l : List UInt8) (m : Nat) (sub : List (Rose IL)) (er : Nat), l.length < f → rdL (rdI k) f l m sub = .error er → 2 ≤ er := by
  intro f
  induction f with
  | zero => intro l m sub er h; omega
  | succ f ih =>
    intro l m sub er hl he
    simp only [rdL] at he
    split at he
    · cases he
    · split at he
      · rename_i e' h'
        have := h _ _ _ h'
        cases he
        split <;> omega
      · rename_i y hy
        obtain ⟨h1, h2⟩ := rdI_pos hy
        exact ih _ _ _ _ (by simp; omega) he
theorem rdI_errs : ∀ (k : Nat) (l : List UInt8) (m er : Nat), rdI k l m = .error er → 2 ≤ er := by
  intro k
  induction k with
  | zero => intro l m er h; simp only [rdI] at h; split at h <;> cases h <;> decide
  | succ k ih =>
    intro l m er h
    simp only [rdI] at h
    split at h
    · cases h; decide
    split at h
    · cases h; decide
    split at h
    · rename_i e' he
      cases h
      have := hd_errs he
      omega
    · rename_i q hq
      split at h
      · split at h
        · rename_i e' he
          cases h
          refine rdL_errs ih _ _ _ _ _ ?_ he
          simp; omega
        · cases h
      · cases h
section
variable {g : Nat} {w0 w : World} {l0 : List UInt8} {k m : Nat} {tot : Int} {I : List UInt8} {v : Value} {L : List (Elt IL)} {cnt : Nat}
theorem GLp.below {w' : World} (h : GLp g w0 w l0 k m tot I v L cnt) (hb : Below w.heap.size w w') : GLp g w0 w' l0 k m tot I v L cnt :=
  ⟨Below.blk hb h.out h.out.lt, Below.blk hb h.res h.res.lt, h.own.keep hb.size (fun c hc _ => hb.block c hc) (fun _ _ h => h), h.bel.trans (hb.mono (by have := h.res.lt; omega)), h.eq, h.c1, h.c2⟩
theorem GLp.next {w4 w5 : World} {gg cap cnt' : Nat} {x : Elt IL} {I' : List UInt8} (h : GLp g w0 w l0 k m tot I v L cnt) (hw : Below w.heap.size w w4) (hx : ISubsQ w4 (fun c => w.heap.size ≤ c) x.u x.sub)
    (hrow : OwnG itf 3 w5 0 IT (.slice (some ⟨gg, 0, none⟩) (L.length + 1) cap) (L ++ [x])) (hg : w4.grownBy w5 v.ownBlock) (hat : v.ownBlock = some gg ∨ gg = w4.heap.size) (hxl : x.lab.text.length ≤ maxLen)
    (heq : rdS k I (m + 1 - cnt) (L.map Elt.tree) = rdS k I' (m + 1 - cnt') (L.map Elt.tree ++ [x.tree])) (hc1 : cnt + 1 ≤ cnt') (hc2 : cnt' ≤ m + 1) :
    GLp g w0 ((w5.setCell ⟨g + 1, 2, none⟩ (.slice (some ⟨gg, 0, none⟩) (L.length + 1) cap)).setCell ⟨g + 1, 4, none⟩ (.int .i64 (cnt' : Nat))) l0 k m tot I' (.slice (some ⟨gg, 0, none⟩) (L.length + 1) cap) (L ++ [x]) cnt' := by
  have h4 := h.below hw
  have hvlt : ∀ b, v.ownBlock = some b → b < w.heap.size ∧ g + 2 ≤ b := fun b hb => ⟨(h.own.1.block b hb).2.1, h.own.2.1 b hb⟩
  have hgg : g + 2 ≤ gg := by
    rcases hat with e | e
    · exact (hvlt _ e).2
    · have := h4.out.lt; omega
  have hown := OwnI.push1 h4.own hrow hg (hat.imp id fun e => by omega) hx (fun c hc e => by have := (hvlt c e).1; omega) hxl
  have hout5 : Blk w5 (g + 1) #[.string ⟨#[]⟩, .bool true, v, .int .i64 tot, .int .i64 (cnt : Nat), .int .i64 0] GT := by
    unfold Blk
    rw [hg.block (g + 1) h4.out.lt (fun e => by have := (hvlt _ e.symm).2; omega)]; exact h4.out
  have hres5 : Blk w5 g gzero GT := by
    unfold Blk
    rw [hg.block g h4.res.lt (fun e => by have := (hvlt _ e.symm).2; omega)]; exact h4.res
  have hfar : ∀ c, c ≠ g + 1 → ((w5.setCell ⟨g + 1, 2, none⟩ (.slice (some ⟨gg, 0, none⟩) (L.length + 1) cap)).setCell ⟨g + 1, 4, none⟩ (.int .i64 (cnt' : Nat))).heap[c]? = w5.heap[c]? := fun c hc => by
    rw [Below.heap_setCell _ _ _ _ hc, Below.heap_setCell _ _ _ _ hc]
  have hsz : ((w5.setCell ⟨g + 1, 2, none⟩ (.slice (some ⟨gg, 0, none⟩) (L.length + 1) cap)).setCell ⟨g + 1, 4, none⟩ (.int .i64 (cnt' : Nat))).heap.size = w5.heap.size := by simp [World.setCell]
  refine ⟨(hout5.set 2 _).set 4 _, by unfold Blk; rw [hfar g (by omega)]; exact hres5, hown.keep (by rw [hsz]; exact Nat.le_refl _) (fun c _ hq => hfar c ?_) (fun c _ hq => ?_), ?_, ?_, ?_, hc2⟩
  · rcases hq with hq | hq | hq
    · omega
    · have := h.out.lt; omega
    · omega
  · rcases hq with hq | hq | hq
    · exact hq
    · have := h.out.lt; show g + 2 ≤ c; omega
    · show g + 2 ≤ c; omega
  · have h5 : Below g w0 w5 := ⟨hg.os.trans h4.bel.os, hg.tape.trans h4.bel.tape, hg.output.trans h4.bel.output, Nat.le_trans h4.bel.size hg.size, fun c hc => (hg.block c (by have := h4.res.lt; omega) (fun e => by have := (hvlt _ e.symm).2; omega)).trans (h4.bel.block c hc)⟩
    refine ⟨h5.os, h5.tape, h5.output, by rw [hsz]; exact h5.size, fun c hc => (hfar c (by omega)).trans (h5.block c hc)⟩
  · rw [h.eq, heq]; simp
  · have := h.c1; simp; omega
end
def strN : Value → Nat
  | .string b => b.size
  | _ => 0
theorem gl_ini {g : Nat} {w wa wb : World} {l0 : List UInt8} {k m : Nat} {tot : Int} (hba : Blk wa g gzero GT) (hbe : Below g w wa) (hsa : wa.heap.size = g + 1) (h : wa.alloc (.cells #[.string ⟨#[]⟩, .bool true, .slice none 0 0, .int .i64 tot, .int .i64 1, .int .i64 0] GT) = wb) :
    GLp g w wb l0 k m tot l0 (.slice none 0 0) [] 1 := by
  subst h
  have hb := (Below.refl _ wa).alloc (Nat.le_refl _) (.cells #[.string ⟨#[]⟩, .bool true, .slice none 0 0, .int .i64 tot, .int .i64 1, .int .i64 0] GT)
  exact ⟨hsa ▸ Blk.new wa _ _, Below.blk hb hba hba.lt, OwnI.nil _ _, hbe.trans (hb.mono (by omega)), rfl, by simp, by omega⟩
theorem gl_end {g : Nat} {w0 w : World} {l0 : List UInt8} {k m Z N : Nat} {v : Value} {L : List (Elt IL)} {cnt : Nat} {R : RdR} {x y z : Value} (hg : w0.heap.size = g) (h : GLp g w0 w l0 k m ((Z : Int) + (N : Int)) [] v L cnt)
    (hR : R = match rdS k l0 m [] with
      | .error e => .error e
      | .ok y => .ok (.node ⟨[], true⟩ y.1, Z + N, y.2)) :
    GotPost R (m + 1) w0 (.returned (.agg #[.string ⟨#[]⟩, .bool true, v, .int .i64 ((Z : Int) + (N : Int)), .int .i64 (cnt : Nat), .int .i64 0])) (put6 w g (.string ⟨#[]⟩) (.bool true) v (.int .i64 ((Z : Int) + (N : Int))) (.int .i64 (cnt : Nat)) (.int .i64 0)) := by
  have hRE : R = .ok (.node ⟨[], true⟩ (L.map Elt.tree), Z + N, m + 1 - cnt) := by rw [hR, h.eq, rdS_nil]
  rw [hRE]
  have hc := h.c2
  have hout : Blk w g #[.string ⟨#[]⟩, .bool false, .slice none 0 0, .int .i64 0, .int .i64 0, .int .i64 0] GT := h.res
  refine ⟨v, ?_, ?_, hg.symm ▸ Upd.below (put6_upd w g _ _ _ _ _ _) h.bel (Nat.le_refl _) (Nat.le_of_lt hout.lt)⟩
  · show _ = Ending.returned (.agg #[.string ⟨#[]⟩, .bool true, v, .int .i64 ((Z + N : Nat) : Int), .int .i64 ((m + 1 - (m + 1 - cnt) : Nat) : Int), .int .i64 0])
    rw [show m + 1 - (m + 1 - cnt) = cnt by omega, show ((Z + N : Nat) : Int) = (Z : Int) + (N : Int) by omega]
  · refine Shape.Subs.keep h.own.subs (by rw [put6_size]; exact Nat.le_refl _) (fun c _ hc => ?_) fun c _ hc => put6_heap c ?_
    · show w0.heap.size ≤ c; have : g + 2 ≤ c := hc; omega
    · have : g + 2 ≤ c := hc; omega
theorem gl_put {g : Nat} {w0 w : World} {l0 : List UInt8} {k m : Nat} {tot : Int} {I : List UInt8} {v : Value} {L : List (Elt IL)} {cnt : Nat} (h : GLp g w0 w l0 k m tot I v L cnt) (a b c d e f : Value) :
    Blk (put6 w g a b c d e f) g #[a, b, c, d, e, f] GT ∧ Below g w0 (put6 w g a b c d e f) := got_put h.res h.bel a b c d e f
theorem got_drop (I : ByteArray) (sz : Nat) : I.data.toList.drop sz = (I.extract sz I.size).data.toList := by
  simp only [ByteArray.data_extract, Array.toList_extract, List.extract]
  rw [List.take_of_length_le]
  have h : I.data.toList.length = I.size := by simp
  rw [List.length_drop]
  omega
theorem got_textlen {I : ByteArray} {k m : Nat} {xa : IL} {xs : List (Rose IL)} {sz m2 n : Nat} (hI : I.size ≤ n) (h : rdI k I.data.toList m = .ok (.node xa xs, sz, m2)) : xa.text.length ≤ n := by
  obtain ⟨_, h2, _, _, h5, h6⟩ := rdI_spec _ _ _ _ h
  have h7 : (enc (Rose.node xa xs)).length ≤ n := by
    have := congrArg List.length h6
    simp only [List.length_take] at this
    have h8 : I.data.toList.length = I.size := by simp
    simp only at h2
    omega
  exact text_le _ h5 h7
/-- Behind the append: what may be read and stored. -/
theorem gl_cells {g b2 : Nat} {w0 w3 w4 w5 : World} {l0 : List UInt8} {k m : Nat} {tot : Int} {I : List UInt8} {v : Value} {L : List (Elt IL)} {cnt : Nat} {cs : Array Value} (h : GLp g w0 w3 l0 k m tot I v L cnt) (hv : ∀ b, v.ownBlock = some b → b ≠ b2) (hB : Blk w3 b2 cs GT)
    (hw : Below w3.heap.size w3 w4) (hg : w4.grownBy w5 v.ownBlock) : (w5.cell? ⟨g + 1, 2, none⟩ = some v ∧ w5.frozen? ⟨g + 1, 2, none⟩ = false) ∧ (w5.cell? ⟨g + 1, 4, none⟩ = some (.int .i64 (cnt : Nat)) ∧ w5.frozen? ⟨g + 1, 4, none⟩ = false) ∧
      ∀ i, w5.cell? ⟨b2, i, none⟩ = cs[i]? := by
  have h4 := h.below hw
  have hB4 := Below.blk hw hB hB.lt
  have hout5 : Blk w5 (g + 1) #[.string ⟨#[]⟩, .bool true, v, .int .i64 tot, .int .i64 (cnt : Nat), .int .i64 0] GT := by
    unfold Blk
    rw [hg.block (g + 1) h4.out.lt (fun e => by have : g + 2 ≤ g + 1 := h.own.2.1 _ e.symm; omega)]; exact h4.out
  have hB5 : Blk w5 b2 cs GT := by
    unfold Blk
    rw [hg.block b2 hB4.lt (fun e => hv _ e.symm rfl)]; exact hB4
  exact ⟨⟨hout5.cell 2, hout5.free 2⟩, ⟨hout5.cell 4, hout5.free 4⟩, fun i => hB5.cell i⟩
end Go.Proofs.Ytopfpfpefljkkaa
