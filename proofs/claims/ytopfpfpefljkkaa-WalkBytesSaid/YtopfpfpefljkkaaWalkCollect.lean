/- slices.Collect of an item's tokens. -/
import Derived.Test.YtopfpfpefljkkaaWalkEach
namespace Go.Proofs.Ytopfpfpefljkkaa
open Go.RowKit Go.Shelf
attribute [local go_sem] Oper.semAt_some
set_option linter.unusedVariables false
set_option linter.unusedSimpArgs false

abbrev TT : TypeId := 79
abbrev TS : TypeId := 44
theorem tk_row : RowTypes Try.prog TS TT 2 := ⟨Try.underlying44, ⟨.agg #[.int .i64 0, .string ⟨#[]⟩], 24, by
  obtain ⟨i, h1, h2, h3, h4⟩ := info_parts (show (Try.prog.info? TT).map (fun i => (i.zero, i.size, i.bytes)) = some (some (.agg #[.int .i64 0, .string ⟨#[]⟩]), 2, 24) by kernel_rfl)
  exact ⟨i, h1, h2, h3, h4, by decide, rfl⟩⟩, by decide⟩

/-- What stands in a round's beginning: so many have come. -/
structure ApI (D : Nat) (w : World) (T : List Tk) (k : Nat) (M : Nat → Prop) (W : World) (v : Value) : Prop where
  below : Below D w W
  size : D + 3 ≤ W.heap.size
  box : Blk W D #[v] TS
  row : OwnG tkf 2 W (D + 3) TT v (T.take k)
  md : ∀ b, M b → D < b ∧ b < W.heap.size
  mo : ∀ b, v.ownBlock = some b → ¬ M b
theorem ApI.grown {D k : Nat} {w W W' : World} {T : List Tk} {M M' : Nat → Prop} {v : Value} {row : Option Nat} (h : ApI D w T k M W v) (hg : W.grownBy W' row) (hr : ∀ r, row = some r → D < r ∧ v.ownBlock ≠ some r) (hM : ∀ b, M' b → D < b ∧ b < W'.heap.size) (hM2 : ∀ b, v.ownBlock = some b → ¬ M' b) : ApI D w T k M' W' v :=
  ⟨h.below.grown hg (by have := h.size; omega) (fun r e => by have := (hr r e).1; omega), Nat.le_trans h.size hg.size, by
    unfold Blk
    rw [hg.block D h.box.lt fun e => by have := (hr _ e.symm).1; omega]; exact h.box,
   h.row.keep fun b hb => hg.block b (h.row.block b hb).2.1 fun e => (hr b e.symm).2 hb, hM, hM2⟩

theorem ap_round {D k : Nat} {w W : World} {T : List Tk} {M : Nat → Prop} {v : Value} {t : Tk} (h : ApI D w T k M W v) (ht : T[k]? = some t) (hM : ¬ M (D + 2)) (cs1 : Array Value) (cs2 : Array Value) :
    ∀ W2, (W.alloc (.cells cs1 TT)).grownBy W2 (some (D + 2)) → W2.heap.size = (W.alloc (.cells cs1 TT)).heap.size → Blk W2 D #[v] TS ∧ (cs1.size = 2 → W2.heap[W.heap.size]? = (W.alloc (.cells cs1 TT)).heap[W.heap.size]?) ∧ OwnG tkf 2 (W2.alloc (.cells cs2 TT)) (D + 3) TT v (T.take k) ∧
      ∀ g cap W4, OwnG tkf 2 W4 (D + 3) TT (.slice (some ⟨g, 0, none⟩) ((T.take k).length + 1) cap) (T.take k ++ [t]) → (W2.alloc (.cells cs2 TT)).grownBy W4 v.ownBlock → (v.ownBlock = some g ∨ g = (W2.alloc (.cells cs2 TT)).heap.size) →
        (Blk W4 D #[v] TS) ∧ KpL (D + 1) W2 (W4.setCell ⟨D, 0, none⟩ (.slice (some ⟨g, 0, none⟩) ((T.take k).length + 1) cap)) ∧ KpM D M W (W4.setCell ⟨D, 0, none⟩ (.slice (some ⟨g, 0, none⟩) ((T.take k).length + 1) cap)) ∧
        ApI D w T (k + 1) M (W4.setCell ⟨D, 0, none⟩ (.slice (some ⟨g, 0, none⟩) ((T.take k).length + 1) cap)) (.slice (some ⟨g, 0, none⟩) ((T.take k).length + 1) cap) := by
  intro W2 hg2 hz2
  have g1 := World.grownBy_alloc W (.cells cs1 TT) none
  have z1 : (W.alloc (.cells cs1 TT)).heap.size = W.heap.size + 1 := by simp
  generalize W.alloc (.cells cs1 TT) = W1 at *
  have g3 := World.grownBy_alloc W2 (.cells cs2 TT) none
  have z3 : (W2.alloc (.cells cs2 TT)).heap.size = W2.heap.size + 1 := by simp
  generalize W2.alloc (.cells cs2 TT) = W3 at *
  have hs := h.size
  have hvb : ∀ b, v.ownBlock = some b → D + 3 ≤ b ∧ b < W.heap.size := fun b hb => ⟨(h.row.block b hb).1, (h.row.block b hb).2.1⟩
  have k12 : ∀ b, b < W.heap.size → b ≠ D + 2 → W2.heap[b]? = W.heap[b]? := fun b hb hn => (hg2.block b (by omega) (fun e => by cases e; exact hn rfl)).trans (g1.block b hb (fun e => by cases e))
  have k13 : ∀ b, b < W.heap.size → b ≠ D + 2 → W3.heap[b]? = W.heap[b]? := fun b hb hn => (g3.block b (by omega) (fun e => by cases e)).trans (k12 b hb hn)
  have hbox2 : Blk W2 D #[v] TS := by unfold Blk; rw [k12 D (by omega) (by omega)]; exact h.box
  refine ⟨hbox2, fun _ => hg2.block _ (by omega) (fun e => by injection e with e; omega), h.row.keep fun b hb => k13 b (hvb b hb).2 (by have := (hvb b hb).1; omega), fun g cap W4 hr4 hg4 hat => ?_⟩
  have hbox4 : Blk W4 D #[v] TS := by
    unfold Blk
    rw [hg4.block D (by omega) (fun e => by have := (hvb D e.symm).1; omega), k13 D (by omega) (by omega)]; exact h.box
  have hgD : D + 3 ≤ g := (hr4.block g rfl).1
  have hz4 := hg4.size
  have far : ∀ b, b < W2.heap.size → b ≠ D → v.ownBlock ≠ some b → (W4.setCell ⟨D, 0, none⟩ (.slice (some ⟨g, 0, none⟩) ((T.take k).length + 1) cap)).heap[b]? = W2.heap[b]? := fun b hb hn hv => by
    rw [Below.heap_setCell _ _ _ _ hn, hg4.block b (by omega) (fun e => hv e.symm), g3.block b hb (fun e => by cases e)]
  have zs : (W4.setCell ⟨D, 0, none⟩ (.slice (some ⟨g, 0, none⟩) ((T.take k).length + 1) cap)).heap.size = W4.heap.size := by simp [World.setCell]
  have hbel : Below D w W4 := ((h.below.grown g1 (by omega) (fun _ e => by cases e)).grown hg2 (by omega) (fun r e => by injection e with e; omega)).grown g3 (by omega) (fun _ e => by cases e) |>.grown hg4 (by omega) (fun r e => by have := (hvb r e).1; omega)
  refine ⟨hbox4, ⟨far _ (by omega) (by omega) (fun e => by have := (hvb _ e).1; omega), far _ (by omega) (by omega) (fun e => by have := (hvb _ e).1; omega)⟩, ⟨by rw [zs]; omega, fun b hb hm => ?_⟩, ?_⟩
  · have hbD : b ≠ D := by
      rintro rfl
      rcases hm with hm | hm
      · omega
      · have := (h.md _ hm).1; omega
    have hb2 : b ≠ D + 2 := by
      rintro rfl
      rcases hm with hm | hm
      · omega
      · exact hM hm
    rw [far b (by omega) hbD (fun e => by
      rcases hm with hm | hm
      · have := (hvb _ e).1; omega
      · exact h.mo _ e hm), k12 b hb hb2]
  · refine ⟨hbel.setCell (Nat.le_refl _) _, by rw [zs]; omega, ?_, ?_, fun b hb => ⟨(h.md b hb).1, by rw [zs]; have := (h.md b hb).2; omega⟩, fun b hb => ?_⟩
    · have := hbox4.set 0 (.slice (some ⟨g, 0, none⟩) ((T.take k).length + 1) cap)
      simpa using this
    · have e : T.take (k + 1) = T.take k ++ [t] := by rw [List.take_add_one, ht]; rfl
      rw [e]
      exact hr4.keep fun b hb => Below.heap_setCell _ _ _ _ (show b ≠ D by simp [Value.ownBlock] at hb; omega)
    · simp [Value.ownBlock] at hb
      subst hb
      rcases hat with hat | hat
      · exact h.mo _ hat
      · intro hm
        have := (h.md _ hm).2
        omega

set_option maxRecDepth 100000 in
set_option maxHeartbeats 4000000 in
theorem append_seq (n gf : Nat) (lb : Array Value) (T : List Tk) (w : World) (hn : 3 ≤ n) (hT : T.length ≤ 100000) (hseq : SeqMine Fence.wide (n - 1) Try.prog gf lb (encT T) T.length w)
    (eg : ∀ args w, (callFunc gf args).run Try.prog w = .ok (.enter gf args) w) :
    CallsIn Fence.wide n Try.prog 57 #[.slice none 0 0, .func (.func gf) #[] lb] w
      fun e w' => ∃ v, e = .returned v ∧ OwnG tkf 2 w' w.heap.size TT v T ∧ Below w.heap.size w w' := by
  have hro : Fence.wide.round = none := rfl
  have h1 : 1 ≤ n := by omega
  obtain ⟨D, hD⟩ : ∃ D, w.heap.size = D := ⟨_, rfl⟩
  rw [hD]
  refine callsIn_of_wp_marks Try.func57 rfl trivial ?_ hro
  simp only [Try.ntmps57, List.size_toArray, List.length_cons, List.length_nil, Nat.reduceAdd, Nat.reduceSub, Array.replicate_succ, Array.replicate_zero, List.push_toArray, List.append_toArray, List.nil_append, List.cons_append]
  gi_wp2
  have hI : AbM (fun k M W => ∃ v, ApI D w T k M W v) := fun k M W W' row ⟨v, h⟩ hg hr => by
    refine ⟨v, h.grown hg (fun r e => ⟨(h.md _ (hr r e)).1, fun e2 => h.mo _ e2 (hr r e)⟩) (fun b hb => ?_) fun b hb hm => ?_⟩
    · rcases hb with hb | hb
      · exact ⟨(h.md b hb).1, Nat.lt_of_lt_of_le (h.md b hb).2 hg.size⟩
      · exact ⟨by have := h.size; omega, hb.2⟩
    · rcases hm with hm | hm
      · exact h.mo b hb hm
      · have := (h.row.block b hb).2.1; omega
  have z0 : (w.alloc (.cells #[.slice none 0 0] TS)).heap.size = D + 1 := by simp [hD]
  have hb0 := Blk.new w #[.slice none 0 0] TS
  have hw0 := (Below.refl D w).alloc (Nat.le_of_eq hD.symm) (.cells #[.slice none 0 0] TS)
  rw [hD] at hb0
  generalize w.alloc (.cells #[.slice none 0 0] TS) = w1 at *
  refine wpIn_range_mine (n := n) (encs := encT T) (N := T.length) (w0 := w) hro h1 (gf := gf) (lb := lb) rfl trivial eg hseq (hD.symm ▸ hw0) (fun k => encT_size T k) (fun k M W => ∃ v, ApI D w T k M W v) hI ?hL ?h0 ?hround ?hdone
  case hL =>
    rintro k M W W' r ⟨v, h⟩ hg rfl hz
    refine ⟨v, h.grown hg (fun r e => ?_) (fun b hb => ⟨(h.md b hb).1, Nat.lt_of_lt_of_le (h.md b hb).2 hg.size⟩) h.mo⟩
    injection e with e
    exact ⟨by omega, fun e2 => by have := (h.row.block _ e2).1; omega⟩
  case h0 =>
    intro W hg hz
    refine ⟨.slice none 0 0, hw0.grown hg (by omega) (fun _ e => by cases e), by omega, ?_, OwnG.nil _ _ _, fun _ h => h.elim, fun b hb => by simp [Value.ownBlock] at hb⟩
    unfold Blk
    rw [hg.block D (by omega) (fun e => by cases e)]; exact hb0
  case hround =>
    rintro l k M W hk ⟨v, h⟩
    obtain ⟨t, ht⟩ : ∃ t, T[k]? = some t := ⟨_, List.getElem?_eq_getElem hk⟩
    have HR := Lib.hid (ap_round h ht)
    have hlt0 := h.size
    obtain ⟨oa, cp, rfl⟩ := h.row.slice
    rw [encT_at ht, z0]
    have hkl : (T.take k).length ≤ 1000000 := by rw [List.length_take]; omega
    clear hseq hI h ht
    simp only [List.zip_toArray, List.zip_cons_cons, List.zip_nil_right, List.foldl_toArray, List.foldl_cons, List.foldl_nil, List.setIfInBounds_toArray, List.set_cons_zero, List.set_cons_succ]
    gi_wp2
    refine ⟨⟨Below.heap_alloc _ _ _ (by omega), Below.heap_alloc _ _ _ (by omega)⟩, fun W2 hg2 hz2 hm => ?_⟩
    obtain ⟨hb2, hc2, hr2, hfin⟩ := HR.out hm #[.int .i64 t.kind, .string t.text] #[.int .i64 t.kind, .string t.text] W2 hg2 hz2
    have hc2 := hc2 rfl
    have hbk : Blk W2 W.heap.size #[.int .i64 t.kind, .string t.text] TT := by unfold Blk; rw [hc2]; exact Blk.new _ _ _
    have c0 := hb2.cell 0
    have d0 := hbk.cell 0
    have d1 := hbk.cell 1
    have HF := Lib.hid hfin
    have hnb := Lib.hid (Blk.new W2 #[.int .i64 t.kind, .string t.text] TT)
    have hDs : D + 3 ≤ (W2.alloc (.cells #[.int .i64 t.kind, .string t.text] TT)).heap.size := by simp at hz2 ⊢; omega
    have HR2 := Lib.hid hr2
    clear hb2 hc2 hbk hfin hr2 hg2 hz2 hm HR
    obtain ⟨K, hK⟩ : ∃ K, (T.take k).length = K := ⟨_, rfl⟩
    have HK := Lib.hid hK
    rw [hK] at c0 HR2 HF
    clear hK
    gi_wp2_with (gi_at_builtin; refine wpListIn_append_g (y := t) tk_row tkf_len rfl _ _ rfl rfl HR2.out rfl hnb.out rfl (by simp [tkf, Value.oneCell']) hkl hDs ?_; intro g2 cap2 w4 hr4 hg4 hat4 hlt4; rw [HK.out] at hr4 ⊢; obtain ⟨f0, f1, f2, f3⟩ := HF.out _ _ _ hr4 hg4 hat4; have HF1 := Lib.hid f1; have HF2 := Lib.hid f2; have HF3 := Lib.hid f3; have c4 := f0.cell 0; have y4 := f0.free 0; clear f0 f1 f2 f3 hr4 hg4 hat4)
    exact ⟨rfl, HF1.out, by rw [hD]; exact HF2.out, _, HF3.out⟩
  case hdone =>
    rintro M W ⟨v, h⟩ hd
    have c0 := h.box.cell 0
    have H := Lib.hid h
    obtain ⟨oa, cp, rfl⟩ := h.row.slice
    clear h hseq hI
    gi_wp2
    refine ⟨by simp, .inl ⟨_, _, rfl, run_takeDeferred hd, ?_⟩⟩
    have hg := grownBy_putObj' W w1.heap.size (Obj.deferred none)
    have H2 := H.out.grown hg (M' := M) (fun r e => by
      injection e with e
      exact ⟨by omega, fun e2 => by have := (H.out.row.block _ e2).1; omega⟩) (fun b hb => ⟨(H.out.md b hb).1, Nat.lt_of_lt_of_le (H.out.md b hb).2 hg.size⟩) H.out.mo
    refine ⟨_, results_tmp rfl _ _ _, _, rfl, ?_, H2.below⟩
    have := H2.row
    rw [List.take_length] at this
    exact ⟨this.1, by rcases this.2 with h | ⟨g, cap, cur, h1, h2, h3⟩; exact .inl h; exact .inr ⟨g, cap, cur, h1, by omega, h3⟩⟩

/-- The tokens of an item, collected. -/
theorem collect_each (x : Rose IL) (bx : Nat) (v : Value) (w : World) (hT : (toks x).length ≤ 100000) (hbx : Blk w bx #[.string (txt x.lab), .bool x.lab.list, v] IT) (hv : ISubs w v x.sub) (hxl : x.lab.text.length ≤ maxLen) :
    Calls Try.prog 45 #[.func (.func 58) #[] #[.pointer (some ⟨bx, 0, none⟩)]] w
      fun e w' => ∃ v, e = .returned v ∧ OwnG tkf 2 w' w.heap.size TT v (toks x) ∧ Below w.heap.size w w' := by
  have HA := Lib.hid (callsIn_wide.1 (append_seq 8 58 #[.pointer (some ⟨bx, 0, none⟩)] (toks x) w (by decide) hT (each_seq 7 x bx v w hT hbx hv hxl) (fun args w' => rfl)))
  clear hbx hv
  go_enter Try.func45, Try.ntmps45
  go_wp2_with fail
  refine HA.out.mono ?_
  rintro e w2 ⟨u, rfl, h1, h2⟩
  obtain ⟨oa, cp, rfl⟩ := h1.slice
  have H1 := Lib.hid h1
  have H2 := Lib.hid h2
  clear h1 h2
  go_wp2_with fail
  go_returns
  exact ⟨_, rfl, H1.out, H2.out⟩
end Go.Proofs.Ytopfpfpefljkkaa
