/- rlp.Next's closure: an item is put behind the others of the inmost list. -/
import Derived.Test.YtopfpfpefljkkaaRlpStack
import Derived.Test.YtopfpfpefljkkaaBar
import Derived.Deep.RegionHeld3
namespace Go.Proofs.Ytopfpfpefljkkaa
open Go.RowKit
set_option linter.unusedVariables false
set_option linter.unusedSimpArgs false

def rf2 (x : Fr) : List Value := [x.v, .int .i64 (x.e : Nat)]
theorem rf2_len (x : Fr) : (rf2 x).length = 2 := rfl
abbrev RT : TypeId := 63
abbrev OT : TypeId := 60
/-- What no level may lie in. -/
def avo (B bo bw : Nat) (vr : Value) : Nat → Prop := fun c => c < B ∨ c = bo ∨ c = bw ∨ vr.ownBlock = some c
/-- The stack of open lists. -/
structure StkAt (w : World) (B bo bw : Nat) (vr : Value) (st : List Fr) : Prop where
  ho : Blk w bo #[vr] OT
  row : OwnG rf2 2 w B RT vr st.reverse
  nbo : vr.ownBlock ≠ some bo
  nbw : vr.ownBlock ≠ some bw
  lev : Levs w (avo B bo bw vr) st
  hbo : B ≤ bo
  hbw : B ≤ bw
  ne : bo ≠ bw
  lt : bw < w.heap.size

theorem it_row : RowTypes Try.prog 23 IT 3 := ⟨Try.underlying23, ⟨.agg #[.string ⟨#[]⟩, .bool false, .slice none 0 0], 48, by
  obtain ⟨i, h1, h2, h3, h4⟩ := info_parts (show (Try.prog.info? IT).map (fun i => (i.zero, i.size, i.bytes)) = some (some (.agg #[.string ⟨#[]⟩, .bool false, .slice none 0 0]), 3, 48) by kernel_rfl)
  exact ⟨i, h1, h2, h3, h4, by decide, rfl⟩⟩, by decide⟩

/-- 'append(l, x)' of one item at a step of a region that draws its order: the cells to be put there lie in a block. -/
theorem step_append_item {P : Program} {st : TypeId} (T : RowTypes P st IT 3) {ops : Array Oper} {o : Oper} {a : Act} {K : Act → World → Prop} {Q : Exit → Act → World → Prop} {E : Prop} (hgd : o.guard = none) (s x : Operand)
    (ho : o.op = .call { callee := .builtin .append, args := #[s, x], argTypes := #[st, st] }) {w : World} {B b c : Nat} {v : Value} {L : List (Elt IL)} {y : Elt IL} {cs : Array Value} {t' : TypeId} (hs : a.eval s = v) (hown : OwnG itf 3 w B IT v L)
    (hx : a.eval x = .slice (some ⟨b, 0, none⟩) 1 c) (hb : Blk w b cs t') (hcs : cs.toList = itf y) (h1 : ∀ u ∈ itf y, u.oneCell' = true) (hlen : L.length ≤ 1000000) (hB : B ≤ w.heap.size)
    (h : ∀ g cap w', OwnG itf 3 w' B IT (.slice (some ⟨g, 0, none⟩) (L.length + 1) cap) (L ++ [y]) → w.grownBy w' v.ownBlock → (v.ownBlock = some g ∨ g = w.heap.size) → g < w'.heap.size → K (a.put o.dst (.slice (some ⟨g, 0, none⟩) (L.length + 1) cap)) w') :
    if Region.wanted o (yielded ops a.tmps) = true then Oper.wp P o a w K Q else E := by
  have hw : Region.wanted o (yielded ops a.tmps) = true := by simp [Region.wanted, hgd]
  rw [if_pos hw]
  obtain ⟨g, cap, w', hr, h2, h3, h4, h5, _⟩ := run_append_g (ty := o.type) T itf_len hown hb hcs h1 hlen hB
  unfold Oper.wp execOp
  simp only [ho, resolve, invoke, builtin, Sem.run_bind, Sem.run_pure, Result.andThen_ok, List.map_toArray, List.map_cons, List.map_nil, hs, hx]
  rw [hr]
  exact h g cap w' h2 h3 h4 h5

theorem setCell_congr {w w' : World} {b : Nat} (i : Nat) (v : Value) (h : w.heap[b]? = w'.heap[b]?) : (w.setCell ⟨b, i, none⟩ v).heap[b]? = (w'.setCell ⟨b, i, none⟩ v).heap[b]? := by
  simp only [World.setCell]
  rw [Array.getElem?_modify, Array.getElem?_modify, if_pos rfl, if_pos rfl, h]
theorem put3_congr {w w' : World} {b : Nat} (o : Nat) (x y z : Value) (h : w.heap[b]? = w'.heap[b]?) : (put3 w b o x y z).heap[b]? = (put3 w' b o x y z).heap[b]? :=
  setCell_congr _ _ (setCell_congr _ _ (setCell_congr _ _ h))
/-- What the stack is behind an item that was put to the inmost list's others. -/
theorem stk_add {w W w2 W3 : World} {B bo bw go gg cr cap N : Nat} {vr : Value} {x : Fr} {xs : List Fr} {y : Elt IL} {Qx : Nat → Prop} {cw : Array Value}
    (h : StkAt w B bo bw vr (x :: xs)) (hbw : Blk w bw cw IT) (hvr : vr = .slice (some ⟨go, 0, none⟩) (N + 1) cr) (hN : xs.length = N) (hx : ISubsQ w Qx y.u y.sub) (hQ : ∀ c, Qx c → ¬ avo B bo bw vr c)
    (hL : Levs w (fun c => avo B bo bw vr c ∨ Qx c) (x :: xs)) (hyl : y.lab.text.length ≤ maxLen) (hW : Below w.heap.size w W)
    (hown2 : OwnG itf 3 w2 0 IT (.slice (some ⟨gg, 0, none⟩) (x.L.length + 1) cap) (x.L ++ [zelt])) (hgrow : W.grownBy w2 x.v.ownBlock) (hat : x.v.ownBlock = some gg ∨ gg = W.heap.size)
    (s1 : ∀ c, c ≠ gg → c ≠ go → W3.heap[c]? = w2.heap[c]?) (s2 : W3.heap[gg]? = (put3 w2 gg (x.L.length * 3) (.string (txt y.lab)) (.bool y.lab.list) y.u).heap[gg]?)
    (s3 : W3.heap[go]? = (w2.setCell ⟨go, N * 2, none⟩ (.slice (some ⟨gg, 0, none⟩) (x.L.length + 1) cap)).heap[go]?) (s4 : W3.heap.size = w2.heap.size) (s5 : W3.os = w2.os ∧ W3.tape = w2.tape ∧ W3.output = w2.output) :
    ∃ v', StkAt W3 B bo bw vr (⟨v', x.L ++ [y], x.e⟩ :: xs) ∧ Blk W3 bw cw IT ∧ Below B w W3 := by
  subst hvr
  obtain ⟨Q, hq1, hq2, hq3⟩ := hL
  have hgo : go < w.heap.size ∧ B ≤ go := ⟨(h.row.block go rfl).2.1, (h.row.block go rfl).1⟩
  have hqgo : ∀ c, Q c → c ≠ go := fun c hc e => hq1 c hc (.inl (by subst e; exact .inr (.inr (.inr rfl))))
  have hxgo : ∀ c, Qx c → c ≠ go := fun c hc e => hQ c hc (by subst e; exact .inr (.inr (.inr rfl)))
  have hvlt : ∀ b, x.v.ownBlock = some b → b < w.heap.size ∧ Q b := fun b hb => ⟨(hq2.1.block b hb).2.1, hq2.2.1 b hb⟩
  have hggo : gg ≠ go := by
    rintro rfl
    rcases hat with hat | hat
    · exact hqgo _ (hvlt _ hat).2 rfl
    · have := hW.size; omega
  have hsz : w.heap.size ≤ w2.heap.size := Nat.le_trans hW.size hgrow.size
  have hg2 : w.grownBy w2 x.v.ownBlock := ⟨hgrow.os.trans hW.os, hgrow.tape.trans hW.tape, hgrow.output.trans hW.output, hsz, fun c hc hne => (hgrow.block c (Nat.lt_of_lt_of_le hc hW.size) hne).trans (hW.block c hc)⟩
  have hat2 : x.v.ownBlock = some gg ∨ w.heap.size ≤ gg := hat.imp id fun e => by have := hW.size; omega
  -- the row
  have hrow2 : OwnG rf2 2 w2 B RT (.slice (some ⟨go, 0, none⟩) (N + 1) cr) (x :: xs).reverse := h.row.keep fun b hb => by
    simp [Value.ownBlock] at hb
    subst hb
    exact hg2.block _ hgo.1 fun e => hqgo _ (hvlt _ e.symm).2 rfl
  have hrev : ∀ z : Fr, (z :: xs).reverse[N]? = some z := fun z => by simp [← hN]
  have hset : ∀ z u : Fr, (z :: xs).reverse.set N u = (u :: xs).reverse := fun z u => by simp [← hN]
  have hrow3 := hrow2.set rf2_len (hrev x) (j := 0) (x := .slice (some ⟨gg, 0, none⟩) (x.L.length + 1) cap) (z := ⟨.slice (some ⟨gg, 0, none⟩) (x.L.length + 1) cap, x.L ++ [y], x.e⟩) (by decide) rfl
  rw [hset, Nat.add_zero] at hrow3
  -- the inmost level
  have hpush := OwnI.push hq2 hown2 hg2 hat2 hx (fun c hc e => hq1 c (hvlt c e).2 (.inr hc)) hyl
  have hsz3 : w.heap.size ≤ W3.heap.size := by rw [s4]; exact hsz
  have hfar : ∀ c, c < w.heap.size → ¬ Q c → c ≠ go → W3.heap[c]? = w.heap[c]? := fun c hc hq hn => by
    have : c ≠ gg := by
      rintro rfl
      rcases hat2 with e | e
      · exact hq (hvlt _ e).2
      · omega
    rw [s1 c this hn]
    exact hg2.block c hc fun e => hq (hvlt _ e.symm).2
  have hav : ∀ c, avo B bo bw (.slice (some ⟨go, 0, none⟩) (N + 1) cr) c → ¬ Q c := fun c hc hq => hq1 c hq (.inl hc)
  have hboQ := hav bo (.inr (.inl rfl))
  have hbwQ := hav bw (.inr (.inr (.inl rfl)))
  have hbogo : bo ≠ go := fun e => h.nbo (by subst e; rfl)
  have hbwgo : bw ≠ go := fun e => h.nbw (by subst e; rfl)
  refine ⟨.slice (some ⟨gg, 0, none⟩) (x.L.length + 1) cap, ⟨?_, ?_, h.nbo, h.nbw, ⟨fun c => Q c ∨ Qx c ∨ (c = gg ∧ gg < W3.heap.size), fun c hc hn => ?_, ?_, ?_⟩, h.hbo, h.hbw, h.ne, Nat.lt_of_lt_of_le h.lt hsz3⟩, ?_, ?_⟩
  · unfold Blk
    rw [hfar bo h.ho.lt hboQ hbogo]; exact h.ho
  · refine hrow3.keep fun b hb => ?_
    simp [Value.ownBlock] at hb
    subst hb
    exact s3
  · rcases hc with hc | hc | ⟨rfl, _⟩
    · exact hq1 c hc (.inl hn)
    · exact hQ c hc hn
    · rcases hat2 with e | e
      · exact hq1 _ (hvlt _ e).2 (.inl hn)
      · rcases hn with hn | rfl | rfl | hn
        · have := hgo.2; omega
        · have := h.ho.lt; omega
        · have := h.lt; omega
        · simp [Value.ownBlock] at hn; exact hggo hn.symm
  · refine hpush.keep (by rw [put3_size, s4]; exact Nat.le_refl _) (fun c hc hq => ?_) fun c hc hq => ?_
    · by_cases e : c = gg
      · subst e; exact s2
      · rw [put3_heap c e]
        refine s1 c e ?_
        rcases hq with hq | hq | hq
        · exact hqgo c hq
        · exact hxgo c hq
        · exact absurd hq e
    · rw [put3_size, ← s4] at hc
      rcases hq with hq | hq | hq
      · exact .inl hq
      · exact .inr (.inl hq)
      · exact .inr (.inr ⟨hq, hq ▸ hc⟩)
  · refine hq3.keep hsz3 (fun c hc hn => hfar c hc (fun hq => hn (.inr hq)) fun e => hn (.inl (.inl (by subst e; exact .inr (.inr (.inr rfl)))))) fun c hc hn => ?_
    rcases hn with hn | hn | hn | ⟨rfl, _⟩
    · exact .inl (.inl hn)
    · exact .inr hn
    · exact .inl (.inr hn)
    · rcases hat2 with e | e
      · exact .inr (hvlt _ e).2
      · omega
  · unfold Blk
    rw [hfar bw h.lt hbwQ hbwgo]; exact hbw
  · refine ⟨s5.1.trans hg2.os, s5.2.1.trans hg2.tape, s5.2.2.trans hg2.output, hsz3, fun c hc => ?_⟩
    have hcw : c < w.heap.size := by have := hgo.1; have := hgo.2; omega
    exact hfar c hcw (hav c (.inl hc)) (by have := hgo.2; omega)

set_option maxRecDepth 100000 in
set_option maxHeartbeats 4000000 in
theorem next_add_top (x : Fr) (xs : List Fr) (w : World) (B bo bw : Nat) (vr : Value) (y : Elt IL) (Qx : Nat → Prop) (cw : Array Value) (h : StkAt w B bo bw vr (x :: xs)) (hn : xs.length ≤ 100) (hl : x.L.length ≤ 100000) (hbw : Blk w bw cw IT)
    (hx : ISubsQ w Qx y.u y.sub) (hQ : ∀ c, Qx c → ¬ avo B bo bw vr c) (hL : Levs w (fun c => avo B bo bw vr c ∨ Qx c) (x :: xs)) (hyl : y.lab.text.length ≤ maxLen) :
    Calls Try.prog 35 #[.agg #[.string (txt y.lab), .bool y.lab.list, y.u], .pointer (some ⟨bo, 0, none⟩), .pointer (some ⟨bw, 0, none⟩)] w
      fun e w' => e = .returned (.tuple #[]) ∧ ∃ v', StkAt w' B bo bw vr (⟨v', x.L ++ [y], x.e⟩ :: xs) ∧ Blk w' bw cw IT ∧ Below B w w' := by
  obtain ⟨u, hu⟩ : ∃ u, y.u = u := ⟨_, rfl⟩
  obtain ⟨o, n, c, rfl, _⟩ : ∃ o n c, u = .slice o n c ∧ True := by obtain ⟨o, c, h1, _⟩ := ISubsQ.slice hx; exact ⟨o, _, c, by rw [← hu, h1], trivial⟩
  rw [hu] at hx ⊢
  obtain ⟨g, hg⟩ : ∃ g, w.heap.size = g := ⟨_, rfl⟩
  obtain ⟨oa, cr, hvr⟩ := h.row.slice
  have hrl : (x :: xs).reverse.length = xs.length + 1 := by simp
  rw [hrl] at hvr
  subst hvr
  obtain ⟨go, rfl, hgo, hgolt, _, hcap, hcell, hfz⟩ := OwnG.at_ h.row rf2_len (i := xs.length) (y := x) (by simp)
  have r0 : w.cell? ⟨go, xs.length * 2, none⟩ = some x.v := hcell 0 (by decide)
  have r1 : w.cell? ⟨go, xs.length * 2 + 1, none⟩ = some (.int .i64 (x.e : Nat)) := hcell 1 (by decide)
  have o0 : w.cell? ⟨bo, 0, none⟩ = some (.slice (some ⟨go, 0, none⟩) (xs.length + 1) cr) := h.ho.cell 0
  have holt := h.ho.lt
  have R0 : Hid (w.cell? ⟨go, xs.length * 2, none⟩ = some x.v) := Lib.hid r0
  have HW := Lib.hid (box_item (T := txt y.lab) (l := y.lab.list) (t := IT) hx)
  rw [hg] at HW
  have H := Lib.hid h
  have HL := Lib.hid hL
  have HBW := Lib.hid hbw
  have HX := Lib.hid hx
  have HQ := Lib.hid hQ
  clear h hL hbw hx hrl hQ
  obtain ⟨N, hN⟩ : ∃ N, xs.length = N := ⟨_, rfl⟩
  have HN := Lib.hid hN
  rw [hN] at r0 r1 o0 hn hcell hcap
  obtain ⟨M, hM⟩ : ∃ M, x.L.length = M := ⟨_, rfl⟩
  have HM := Lib.hid hM
  obtain ⟨ov, cv, hv⟩ : ∃ ov cv, x.v = .slice ov M cv := by
    obtain ⟨Q, _, h1, _⟩ := H.out.lev
    obtain ⟨ov, cv, h2⟩ := h1.slice
    exact ⟨ov, cv, by rw [h2, hM]⟩
  rw [hM] at hl
  rw [hv] at r0
  rw [HN.out, hv] at R0
  clear hcell hN hM
  go_enter Try.func35, Try.ntmps35
  go_upto_region 1 with fail
  generalize w.alloc (.cells #[.string (txt y.lab), .bool y.lab.list, .slice o n c] IT) = w1 at *
  obtain ⟨hb1, hx1, hsz1, b0, b1, b2, hB1⟩ := HW.out _ rfl
  have s0 := (hb1.cell (p := ⟨go, xs.length * 2, none⟩) (hg ▸ hgolt)).trans (HN.out ▸ r0)
  rw [HN.out] at s0
  have p0 := (hb1.cell (p := ⟨bo, 0, none⟩) (hg ▸ holt)).trans o0
  have HW1 := Lib.hid (And.intro hb1 (And.intro hx1 hB1))
  clear HW hb1 hx1 hB1 r0 r1 o0
  have hw1 : w1.heap.size = g + 1 := by rw [hsz1]
  have hgo1 : go < w1.heap.size := by omega
  have hM0 : (0 : Int) ≤ (M : Int) := Int.natCast_nonneg _
  have hM1 : (M : Int) < (M : Int) + 1 := by omega
  have hvb : ∀ b, (Value.slice ov M cv).ownBlock = some b → b < g ∧ b ≠ go := by
    obtain ⟨Q, hq1, hq2, _⟩ := H.out.lev
    intro b hb
    rw [← hv] at hb
    refine ⟨hg ▸ (hq2.1.block b hb).2.1, fun e => ?_⟩
    subst e
    exact hq1 _ (hq2.2.1 _ hb) (.inr (.inr (.inr rfl)))
  have HVB := Lib.hid hvb
  have A1 : Hid (∀ W, w1.drew.alloc (.cells #[.string ⟨#[]⟩, .bool false, .slice none 0 0] IT) = W → OwnG itf 3 W 0 IT (.slice ov M cv) x.L ∧ Blk W (g + 1) #[.string ⟨#[]⟩, .bool false, .slice none 0 0] IT ∧ Below g w W ∧ W.heap.size = g + 2) := Lib.hid fun W e => by
    subst e
    have hb2 : Below g w (w1.drew.alloc (.cells #[.string ⟨#[]⟩, .bool false, .slice none 0 0] IT)) := HW1.out.1.drew.alloc (by rw [show w1.drew.heap.size = w1.heap.size from rfl]; omega) _
    have hs2 : (w1.drew.alloc (.cells #[.string ⟨#[]⟩, .bool false, .slice none 0 0] IT)).heap.size = g + 2 := by simp only [World.alloc, World.drew, Array.size_push]; omega
    obtain ⟨Q, _, h1, _⟩ := H.out.lev
    refine ⟨?_, ?_, hb2, hs2⟩
    · rw [← hv]
      exact h1.1.keep fun b hb => hb2.block b (hg ▸ (h1.1.block b hb).2.1)
    · have := Blk.new w1.drew #[.string ⟨#[]⟩, .bool false, .slice none 0 0] IT
      rwa [show w1.drew.heap.size = g + 1 from hw1] at this
  have A2 : Hid (∀ gg cap (W w2 : World), w1.drew.alloc (.cells #[.string ⟨#[]⟩, .bool false, .slice none 0 0] IT) = W → OwnG itf 3 w2 0 IT (.slice (some ⟨gg, 0, none⟩) (M + 1) cap) (x.L ++ [zelt]) → W.grownBy w2 (Value.slice ov M cv).ownBlock → ((Value.slice ov M cv).ownBlock = some gg ∨ gg = W.heap.size) →
      (w2.cell? ⟨go, N * 2, none⟩ = some (.slice ov M cv) ∧ w2.cell? ⟨g, 0, none⟩ = some (.string (txt y.lab)) ∧ w2.cell? ⟨g, 1, none⟩ = some (.bool y.lab.list) ∧ w2.cell? ⟨g, 2, none⟩ = some (.slice o n c)) ∧
      w2.frozen? ⟨go, N * 2, none⟩ = false ∧ gg ≠ go ∧ gg ≠ g ∧ (w2.cell? ⟨gg, M * 3, none⟩ = some (.string ⟨#[]⟩) ∧ w2.cell? ⟨gg, M * 3 + 1, none⟩ = some (.bool false) ∧ w2.cell? ⟨gg, M * 3 + 2, none⟩ = some (.slice none 0 0)) ∧
      (w2.frozen? ⟨gg, M * 3, none⟩ = false ∧ w2.frozen? ⟨gg, M * 3 + 1, none⟩ = false ∧ w2.frozen? ⟨gg, M * 3 + 2, none⟩ = false) ∧ M + 1 ≤ cap) := Lib.hid fun gg cap W w2 e h1 h2 h3 => by
    obtain ⟨_, _, hb2, hs2⟩ := A1.out W e
    have hgog : go < g := hg ▸ hgolt
    have f1 : ∀ i, w2.cell? ⟨go, i, none⟩ = w.cell? ⟨go, i, none⟩ := fun i => (h2.cell_far ⟨go, i, none⟩ (show go < W.heap.size by omega) (fun e => (HVB.out _ e.symm).2 rfl)).trans (hb2.cell (p := ⟨go, i, none⟩) hgog)
    have f2 : ∀ i, w2.frozen? ⟨go, i, none⟩ = w.frozen? ⟨go, i, none⟩ := fun i => (h2.frozen_far ⟨go, i, none⟩ (show go < W.heap.size by omega) (fun e => (HVB.out _ e.symm).2 rfl)).trans (hb2.frozen (p := ⟨go, i, none⟩) hgog)
    have hne : some g ≠ (Value.slice ov M cv).ownBlock := fun e => by have := (HVB.out _ e.symm).1; omega
    have f3 : ∀ i, w2.cell? ⟨g, i, none⟩ = w1.cell? ⟨g, i, none⟩ := fun i => by
      subst e
      exact (h2.cell_far ⟨g, i, none⟩ (show g < _ by omega) hne).trans ((Below.refl w1.heap.size w1).drew.alloc (Nat.le_refl _) _ |>.cell (p := ⟨g, i, none⟩) (show g < w1.heap.size by omega))
    obtain ⟨gg', e', _, _, _, hcap2, hc, hf⟩ := OwnG.at_ h1 itf_len (i := M) (y := zelt) (by rw [← HM.out]; simp)
    cases e'
    refine ⟨⟨?_, (f3 0).trans b0, (f3 1).trans b1, (f3 2).trans b2⟩, ?_, ?_, ?_, ⟨hc 0 (by decide), hc 1 (by decide), hc 2 (by decide)⟩, ⟨hf _, hf _, hf _⟩, hcap2⟩
    · rw [f1]; exact R0.out
    · rw [f2]; exact hfz _
    · rintro rfl
      rcases h3 with h3 | h3
      · exact (HVB.out _ h3).2 rfl
      · omega
    · rintro rfl
      rcases h3 with h3 | h3
      · exact hne h3.symm
      · omega
  clear hvb
  go_upto_region 4 with fail
  refine wp_region_bar (S := fun w' => w'.cell? ⟨go, N * 2, none⟩ = some (.slice ov M cv) ∧ w'.cell? ⟨g, 0, none⟩ = some (.string (txt y.lab)) ∧ w'.cell? ⟨g, 1, none⟩ = some (.bool y.lab.list) ∧ w'.cell? ⟨g, 2, none⟩ = some (.slice o n c)) 7 (by kernel_rfl) ⟨s0, b0, b1, b2⟩ (fun hHeld => ?_)
  refine wpAnyB_take (i := 0) (oi := ?oi0) (v := ?v0) ?hi0 (by kernel_rfl) (by kernel_rfl) (by kernel_rfl) (by kernel_rfl) (by kernel_rfl) ?hQ0 (Or.inl ⟨?hw0, ?hy0⟩) hHeld ?rest0
  case hi0 => simp only [List.getElem?_toArray, List.getElem?_cons_succ, List.getElem?_cons_zero] <;> rfl
  case hQ0 => exact fun _ _ _ h => h
  case hw0 => rfl
  case hy0 => (intro w hSw; (try dsimp only at hSw); go_simp; try rfl)
  simp only [Act.put, List.setIfInBounds_toArray, List.set_cons_zero, List.set_cons_succ]
  refine wpAnyB_take (i := 1) (oi := ?oi1) (v := ?v1) ?hi1 (by kernel_rfl) (by kernel_rfl) (by kernel_rfl) (by kernel_rfl) (by kernel_rfl) ?hQ1 (Or.inl ⟨?hw1, ?hy1⟩) hHeld ?rest1
  case hi1 => simp only [List.getElem?_toArray, List.getElem?_cons_succ, List.getElem?_cons_zero] <;> rfl
  case hQ1 => exact fun _ _ _ h => h
  case hw1 => rfl
  case hy1 => (intro w hSw; (try dsimp only at hSw); go_simp; try rfl)
  simp only [Act.put, List.setIfInBounds_toArray, List.set_cons_zero, List.set_cons_succ]
  refine wpAnyB_take (i := 2) (oi := ?oi2) (v := ?v2) ?hi2 (by kernel_rfl) (by kernel_rfl) (by kernel_rfl) (by kernel_rfl) (by kernel_rfl) ?hQ2 (Or.inl ⟨?hw2, ?hy2⟩) hHeld ?rest2
  case hi2 => simp only [List.getElem?_toArray, List.getElem?_cons_succ, List.getElem?_cons_zero] <;> rfl
  case hQ2 => exact fun _ _ _ h => h
  case hw2 => rfl
  case hy2 => (intro w hSw; (try dsimp only at hSw); go_simp; try rfl)
  simp only [Act.put, List.setIfInBounds_toArray, List.set_cons_zero, List.set_cons_succ]
  refine wpAnyB_take (i := 3) (oi := ?oi3) (v := ?v3) ?hi3 (by kernel_rfl) (by kernel_rfl) (by kernel_rfl) (by kernel_rfl) (by kernel_rfl) ?hQ3 (Or.inl ⟨?hw3, ?hy3⟩) hHeld ?rest3
  case hi3 => simp only [List.getElem?_toArray, List.getElem?_cons_succ, List.getElem?_cons_zero] <;> rfl
  case hQ3 => exact fun _ _ _ h => h
  case hw3 => rfl
  case hy3 => (intro w hSw; (try dsimp only at hSw); go_simp; try rfl)
  simp only [Act.put, List.setIfInBounds_toArray, List.set_cons_zero, List.set_cons_succ]
  refine wpAnyB_take (i := 4) (oi := ?oi4) (v := ?v4) ?hi4 (by kernel_rfl) (by kernel_rfl) (by kernel_rfl) (by kernel_rfl) (by kernel_rfl) ?hQ4 (Or.inl ⟨?hw4, ?hy4⟩) hHeld ?rest4
  case hi4 => simp only [List.getElem?_toArray, List.getElem?_cons_succ, List.getElem?_cons_zero] <;> rfl
  case hQ4 => exact fun _ _ _ h => h
  case hw4 => rfl
  case hy4 => (intro w hSw; (try dsimp only at hSw); go_simp; try rfl)
  simp only [Act.put, List.setIfInBounds_toArray, List.set_cons_zero, List.set_cons_succ]
  refine wpAnyB_take (i := 5) (oi := ?oi5) (v := ?v5) ?hi5 (by kernel_rfl) (by kernel_rfl) (by kernel_rfl) (by kernel_rfl) (by kernel_rfl) ?hQ5 (Or.inl ⟨?hw5, ?hy5⟩) hHeld ?rest5
  case hi5 => simp only [List.getElem?_toArray, List.getElem?_cons_succ, List.getElem?_cons_zero] <;> rfl
  case hQ5 => exact fun _ _ _ h => h
  case hw5 => rfl
  case hy5 => (intro w hSw; (try dsimp only at hSw); go_simp; try rfl)
  simp only [Act.put, List.setIfInBounds_toArray, List.set_cons_zero, List.set_cons_succ]
  refine wpAnyB_one (i := 6) (o := ?oi6) (by kernel_rfl) ?hi6 (fun K hK => ?_)
  case hi6 => simp only [List.getElem?_toArray, List.getElem?_cons_succ, List.getElem?_cons_zero] <;> rfl
  go_simp
  obtain ⟨hAo, hAb, hAw, hAs⟩ := A1.out _ rfl
  have hS6 : ∀ i, (w1.drew.alloc (.cells #[.string ⟨#[]⟩, .bool false, .slice none 0 0] IT)).cell? ⟨g, i, none⟩ = w1.cell? ⟨g, i, none⟩ := fun i => ((Below.refl w1.heap.size w1).drew.alloc (Nat.le_refl _) _).cell (p := ⟨g, i, none⟩) (show g < w1.heap.size by omega)
  refine hK.out _ _ ⟨(hAw.cell (p := ⟨go, N * 2, none⟩) (hg ▸ hgolt)).trans R0.out, (hS6 0).trans b0, (hS6 1).trans b1, (hS6 2).trans b2⟩ (fun hHeld2 => ?_)
  clear hK K hS6 hAo hAb hAw hAs hHeld2
  try simp only [Act.put, List.setIfInBounds_toArray, List.set_cons_zero, List.set_cons_succ]
  refine wpAnyB_full _ _ _ _ (by kernel_rfl) (wpAny_of_held (S := fun _ => True) _ _ _ _ ?_)
  refine wpAnyH_ready (rs := [7]) (by kernel_rfl) (by simp) ?_
  refine AllReadyH.cons (o := ?oi7) ?hi7 (fun K hK => ?_) AllReadyH.nil
  case hi7 => simp only [List.getElem?_toArray, List.getElem?_cons_succ, List.getElem?_cons_zero] <;> rfl
  refine step_append_item it_row (by rfl) _ _ (by rfl) (B := 0) (L := x.L) (y := zelt) (by rfl) (A1.out _ (by rfl)).1 (by rfl) (A1.out _ (by rfl)).2.1 rfl (by decide) (by rw [HM.out]; omega) (by omega) ?_
  intro gg cap w2 hown2 hgrow hat hlt
  have HP2 := Lib.hid (And.intro hown2 (And.intro hgrow (And.intro hat hlt)))
  have FIN := Lib.hid (fun W3 => stk_add (W3 := W3) (W := (w1.alloc (.cells #[.string ⟨#[]⟩, .bool false, .slice none 0 0] IT)).drew) (N := N) H.out HBW.out (by rw [HN.out]) HN.out (by rw [hu]; exact HX.out) HQ.out HL.out hyl (hg.symm ▸ (A1.out _ (by rfl)).2.2.1) hown2 (by rw [hv]; exact hgrow) (by rw [hv]; exact hat))
  rw [HM.out, hu] at FIN
  rw [HM.out] at hown2
  rw [HM.out]
  obtain ⟨hk3, z0, hn1, hn2, ⟨q0, q1, q2⟩, ⟨z1, z2, z3⟩, hcp⟩ := A2.out gg cap _ w2 (by rfl) hown2 hgrow hat
  obtain ⟨k0, _⟩ := hk3
  clear hown2 hgrow hat hlt
  refine hK.out _ _ trivial (fun hHeld3 => ?_)
  clear hK K
  try simp only [Act.put, List.setIfInBounds_toArray, List.set_cons_zero, List.set_cons_succ]
  refine wpAnyH_take (i := 8) (oi := ?oi8) (v := ?v8) ?hi8 (by kernel_rfl) (by kernel_rfl) (by kernel_rfl) ?hQ8 (Or.inl ⟨?hw8, ?hy8⟩) hHeld3 ?rest8
  case hi8 => simp only [List.getElem?_toArray, List.getElem?_cons_succ, List.getElem?_cons_zero] <;> rfl
  case hQ8 => exact fun _ _ _ h => h
  case hw8 => rfl
  case hy8 => (intro w hSw; (try dsimp only at hSw); go_simp; try rfl)
  simp only [Act.put, List.setIfInBounds_toArray, List.set_cons_zero, List.set_cons_succ]
  refine wpAnyH_take (i := 10) (oi := ?oi10) (v := ?v10) ?hi10 (by kernel_rfl) (by kernel_rfl) (by kernel_rfl) ?hQ10 (Or.inl ⟨?hw10, ?hy10⟩) hHeld3 ?rest10
  case hi10 => simp only [List.getElem?_toArray, List.getElem?_cons_succ, List.getElem?_cons_zero] <;> rfl
  case hQ10 => exact fun _ _ _ h => h
  case hw10 => rfl
  case hy10 => (intro w hSw; (try dsimp only at hSw); go_simp; try rfl)
  simp only [Act.put, List.setIfInBounds_toArray, List.set_cons_zero, List.set_cons_succ]
  refine wpAnyH_take (i := 11) (oi := ?oi11) (v := ?v11) ?hi11 (by kernel_rfl) (by kernel_rfl) (by kernel_rfl) ?hQ11 (Or.inl ⟨?hw11, ?hy11⟩) hHeld3 ?rest11
  case hi11 => simp only [List.getElem?_toArray, List.getElem?_cons_succ, List.getElem?_cons_zero] <;> rfl
  case hQ11 => exact fun _ _ _ h => h
  case hw11 => rfl
  case hy11 => (intro w hSw; (try dsimp only at hSw); go_simp; try rfl)
  simp only [Act.put, List.setIfInBounds_toArray, List.set_cons_zero, List.set_cons_succ]
  refine wpAnyH_ready (rs := [9, 12]) (by kernel_rfl) (by simp) ?_
  refine AllReadyH.cons (o := ?oi9) ?hi9 (fun K hK => ?_) ?more
  case hi9 => simp only [List.getElem?_toArray, List.getElem?_cons_succ, List.getElem?_cons_zero] <;> rfl
  case more =>
    refine AllReadyH.cons (o := ?oi12) ?hi12 (fun K hK => ?_) AllReadyH.nil
    case hi12 => simp only [List.getElem?_toArray, List.getElem?_cons_succ, List.getElem?_cons_zero] <;> rfl
    go_simp
    refine hK.out _ _ trivial (fun hHeld4 => ?_)
    clear hK K
    try simp only [Act.put, List.setIfInBounds_toArray, List.set_cons_zero, List.set_cons_succ]
    have q0' := (World.cell?_setCell_far w2 ⟨go, N * 2, none⟩ ⟨gg, M * 3, none⟩ (.slice (some ⟨gg, 0, none⟩) (M + 1) cap) (Ne.symm hn1)).trans q0
    have q1' := (World.cell?_setCell_far w2 ⟨go, N * 2, none⟩ ⟨gg, M * 3 + 1, none⟩ (.slice (some ⟨gg, 0, none⟩) (M + 1) cap) (Ne.symm hn1)).trans q1
    have q2' := (World.cell?_setCell_far w2 ⟨go, N * 2, none⟩ ⟨gg, M * 3 + 2, none⟩ (.slice (some ⟨gg, 0, none⟩) (M + 1) cap) (Ne.symm hn1)).trans q2
    refine wpAnyH_ready (rs := [9]) (by kernel_rfl) (by simp) ?_
    refine AllReadyH.cons (o := ?oi9) ?hi9 (fun K hK => ?_) AllReadyH.nil
    case hi9 => simp only [List.getElem?_toArray, List.getElem?_cons_succ, List.getElem?_cons_zero] <;> rfl
    go_simp
    refine hK.out _ _ trivial (fun hHeld5 => ?_)
    clear hK K
    try simp only [Act.put, List.setIfInBounds_toArray, List.set_cons_zero, List.set_cons_succ]
    refine wpAnyH_done (by kernel_rfl) ?_ _
    go_end0
    refine ⟨rfl, FIN.out _ (fun c h1 h2 => ?_) ?_ ?_ (by simp [World.setCell]) ⟨rfl, rfl, rfl⟩⟩
    · rw [put3_eq, put3_heap c h1, Below.heap_setCell _ _ _ _ h2]
    · rw [put3_eq]
      exact put3_congr _ _ _ _ (Below.heap_setCell _ _ _ _ hn1)
    · rw [put3_eq, put3_heap go (Ne.symm hn1)]
  go_simp
  refine hK.out _ _ trivial (fun hHeld4 => ?_)
  clear hK K
  try simp only [Act.put, List.setIfInBounds_toArray, List.set_cons_zero, List.set_cons_succ]
  have k0' : (((w2.setCell ⟨gg, M * 3, none⟩ (.string (txt y.lab))).setCell ⟨gg, M * 3 + 1, none⟩ (.bool y.lab.list)).setCell ⟨gg, M * 3 + 2, none⟩ (.slice o n c)).cell? ⟨go, N * 2, none⟩ = some (.slice ov M cv) := by
    rw [World.cell?_setCell_far _ _ _ _ hn1, World.cell?_setCell_far _ _ _ _ hn1, World.cell?_setCell_far _ _ _ _ hn1]; exact k0
  refine wpAnyH_ready (rs := [12]) (by kernel_rfl) (by simp) ?_
  refine AllReadyH.cons (o := ?oi12) ?hi12 (fun K hK => ?_) AllReadyH.nil
  case hi12 => simp only [List.getElem?_toArray, List.getElem?_cons_succ, List.getElem?_cons_zero] <;> rfl
  go_simp
  refine hK.out _ _ trivial (fun hHeld5 => ?_)
  clear hK K
  try simp only [Act.put, List.setIfInBounds_toArray, List.set_cons_zero, List.set_cons_succ]
  refine wpAnyH_done (by kernel_rfl) ?_ _
  go_end0
  refine ⟨rfl, FIN.out _ (fun c h1 h2 => ?_) ?_ ?_ (by simp [World.setCell]) ⟨rfl, rfl, rfl⟩⟩
  · rw [put3_eq, Below.heap_setCell _ _ _ _ h2, put3_heap c h1]
  · rw [put3_eq, Below.heap_setCell _ _ _ _ hn1]
  · rw [put3_eq]
    exact setCell_congr _ _ (put3_heap go (Ne.symm hn1))

/-- The stack is empty: the whole is laid. -/
theorem stk_whole {w w1 : World} {B bo bw : Nat} {vr : Value} {Qx : Nat → Prop} {cw : Array Value} {T : ByteArray} {l : Bool} {v : Value} {s : List (Rose IL)} (h : StkAt w B bo bw vr []) (hbw : Blk w bw cw IT)
    (hx : ISubsQ w Qx v s) (hQ : ∀ c, Qx c → ¬ avo B bo bw vr c) (hc : cw.size = 3) (h1 : Below w.heap.size w w1) :
    StkAt (put3 w1 bw 0 (.string T) (.bool l) v) B bo bw vr [] ∧ Blk (put3 w1 bw 0 (.string T) (.bool l) v) bw #[.string T, .bool l, v] IT ∧ ISubsQ (put3 w1 bw 0 (.string T) (.bool l) v) Qx v s ∧ Below B w (put3 w1 bw 0 (.string T) (.bool l) v) := by
  have hb1 := Below.blk h1 hbw h.lt
  have hB : Below B w (put3 w1 bw 0 (.string T) (.bool l) v) := by
    have h2 := (h1.mono (show B ≤ w.heap.size by have := h.hbw; have := h.lt; omega))
    exact Upd.below (put3_upd w1 bw 0 (.string T) (.bool l) v) h2 h.hbw (by have := h1.size; have := h.hbw; have := h.lt; omega)
  have hfar : ∀ c, c < w.heap.size → c ≠ bw → (put3 w1 bw 0 (.string T) (.bool l) v).heap[c]? = w.heap[c]? := fun c hc hn => (put3_heap c hn).trans (h1.block c hc)
  refine ⟨⟨?_, h.row.keep fun b hb => hfar b (h.row.block b hb).2.1 (fun e => h.nbw (e ▸ hb)), h.nbo, h.nbw, trivial, h.hbo, h.hbw, h.ne, by rw [put3_size]; exact Nat.lt_of_lt_of_le h.lt h1.size⟩, ?_, ?_, hB⟩
  · unfold Blk
    rw [hfar bo h.ho.lt h.ne]; exact h.ho
  · have := (((hb1.set 0 (.string T)).set 1 (.bool l)).set 2 v)
    have e : ((cw.setIfInBounds 0 (.string T)).setIfInBounds 1 (.bool l)).setIfInBounds 2 v = #[.string T, .bool l, v] := by
      obtain ⟨L⟩ := cw
      match L, hc with
      | [a, b, c], _ => rfl
    rw [e] at this
    exact this
  · exact Shape.Subs.keep hx (by rw [put3_size]; exact h1.size) (fun _ _ h => h) fun c hc hq => hfar c hc fun e => hQ c hq (.inr (.inr (.inl e)))

set_option maxRecDepth 100000 in
set_option maxHeartbeats 1000000 in
theorem next_add_whole (w : World) (B bo bw : Nat) (vr : Value) (y : Elt IL) (Qx : Nat → Prop) (a0 a1 a2 : Value) (h : StkAt w B bo bw vr []) (hbw : Blk w bw #[a0, a1, a2] IT)
    (hx : ISubsQ w Qx y.u y.sub) (hQ : ∀ c, Qx c → ¬ avo B bo bw vr c) :
    Calls Try.prog 35 #[.agg #[.string (txt y.lab), .bool y.lab.list, y.u], .pointer (some ⟨bo, 0, none⟩), .pointer (some ⟨bw, 0, none⟩)] w
      fun e w' => e = .returned (.tuple #[]) ∧ StkAt w' B bo bw vr [] ∧ Blk w' bw #[.string (txt y.lab), .bool y.lab.list, y.u] IT ∧ ISubsQ w' Qx y.u y.sub ∧ Below B w w' := by
  obtain ⟨u, hu⟩ : ∃ u, y.u = u := ⟨_, rfl⟩
  obtain ⟨o, n, c, rfl, _⟩ : ∃ o n c, u = .slice o n c ∧ True := by obtain ⟨o, c, h1, _⟩ := ISubsQ.slice hx; exact ⟨o, _, c, by rw [← hu, h1], trivial⟩
  rw [hu] at hx ⊢
  obtain ⟨g, hg⟩ : ∃ g, w.heap.size = g := ⟨_, rfl⟩
  obtain ⟨oa, cr, hvr⟩ := h.row.slice
  have hvr' : vr = .slice oa 0 cr := hvr
  have o0 : w.cell? ⟨bo, 0, none⟩ = some (.slice oa 0 cr) := by rw [← hvr']; exact h.ho.cell 0
  have holt := h.ho.lt
  have HW := Lib.hid (box_item (T := txt y.lab) (l := y.lab.list) (t := IT) hx)
  have FIN := Lib.hid (fun w1 h1 => stk_whole (w1 := w1) (T := txt y.lab) (l := y.lab.list) h hbw hx hQ rfl h1)
  have hwlt := h.lt
  have c0 := hbw.cell 0
  have c1 := hbw.cell 1
  have c2 := hbw.cell 2
  have z0 := hbw.free 0
  have z1 := hbw.free 1
  have z2 := hbw.free 2
  rw [hg] at HW FIN hwlt holt
  clear h hbw hx hQ hvr hvr'
  go_enter Try.func35, Try.ntmps35
  go_upto_region 1 with fail
  generalize w.alloc (.cells #[.string (txt y.lab), .bool y.lab.list, .slice o n c] IT) = w1 at *
  obtain ⟨hb1, hx1, hsz1, b0, b1, b2, hB1⟩ := HW.out _ rfl
  have p0 := (hb1.cell (p := ⟨bo, 0, none⟩) holt).trans o0
  have d0 := (hb1.cell (p := ⟨bw, 0, none⟩) hwlt).trans c0
  have d1 := (hb1.cell (p := ⟨bw, 1, none⟩) hwlt).trans c1
  have d2 := (hb1.cell (p := ⟨bw, 2, none⟩) hwlt).trans c2
  have y0 := (hb1.frozen (p := ⟨bw, 0, none⟩) hwlt).trans z0
  have y1 := (hb1.frozen (p := ⟨bw, 1, none⟩) hwlt).trans z1
  have y2 := (hb1.frozen (p := ⟨bw, 2, none⟩) hwlt).trans z2
  have FIN1 := Lib.hid (FIN.out _ hb1)
  clear HW hb1 hx1 hB1 FIN c0 c1 c2 z0 z1 z2
  go_wp2_with fail
  go_returns
  exact ⟨rfl, FIN1.out⟩
end Go.Proofs.Ytopfpfpefljkkaa
