/- Package schema: the reader's fields. -/
import Derived.Test.YtopfpfpefljkkaaDoorRdRead
namespace Go.Proofs.YtopfpfpefljkkaaDoor
open Go.RowKit
set_option linter.unusedVariables false
set_option linter.unusedSimpArgs false

abbrev TT : TypeId := 24
/-- What read and fields leave. -/
def ResPost (R : Option (Rose TL × List UInt8 × Nat)) (b : Nat) (s : ByteArray) (w : World) (e : Ending) (w' : World) : Prop :=
  ∃ (a : TL) (o : Option Addr) (n c : Nat) (ok : Bool) (p' l' : Nat), e = .returned (.tuple #[.agg #[.int .i64 a.kind, .int .i64 a.size, .slice o n c, .int .i64 a.tail], .bool ok]) ∧ Upd b w w' ∧ RdB w' b s p' l' ∧ p' ≤ s.size ∧ l' ≤ 64 ∧
    (ok = true → ∃ sub, R = some (.node a sub, tailS s p', l') ∧ TL.wf a ∧ tshape.Subs w' (fun k => w.heap.size ≤ k) (.slice o n c) sub) ∧ (ok = false → R = none)

theorem nextIs_true {c : UInt8} {s : ByteArray} {p : Nat} (hp : p ≤ s.size) (h : nextIs c (tailS s p) = true) : p < s.size ∧ tailS s p = c :: tailS s (p + 1) := by
  rcases Nat.lt_or_ge p s.size with h' | h'
  · rw [tailS_lt h'] at h ⊢
    simp [nextIs] at h
    exact ⟨h', by rw [h]⟩
  · rw [tailS_end h'] at h; simp [nextIs] at h
theorem nextIs_false {c : UInt8} {l r : List UInt8} (h : nextIs c l = false) (e : l = c :: r) : False := by
  rw [e] at h; simp [nextIs] at h
theorem mark_yes {s : ByteArray} {p t : Nat} (hp : p ≤ s.size) (h : nextIs 63 (tailS s p) = true) : mark (tailS s p) t = some (tailS s (p + 1), t + 1) := by
  rw [(nextIs_true hp h).2]; rfl
theorem mark_no {s : ByteArray} {p t : Nat} (h : nextIs 63 (tailS s p) = false) : mark (tailS s p) t = if 0 < t then none else some (tailS s p, t) := by
  unfold mark
  split
  · rename_i r e; exact (nextIs_false h e).elim
  · rfl
theorem flds_none1 {rdf : List UInt8 → Nat → Option (Rose TL × List UInt8 × Nat)} {f n t : Nat} {l : List UInt8} {sub : List (Rose TL)} (h : mark l t = none) : flds rdf (f + 1) l n sub t = none := by
  simp only [flds, h]; rfl
theorem flds_none2 {rdf : List UInt8 → Nat → Option (Rose TL × List UInt8 × Nat)} {f n t t1 : Nat} {l l1 : List UInt8} {sub : List (Rose TL)} (h : mark l t = some (l1, t1)) (h2 : rdf l1 n = none) : flds rdf (f + 1) l n sub t = none := by
  simp only [flds, h, Option.bind_some, h2]; rfl
theorem flds_end {rdf : List UInt8 → Nat → Option (Rose TL × List UInt8 × Nat)} {f n t t1 n2 : Nat} {l l1 r : List UInt8} {sub : List (Rose TL)} {x : Rose TL} (h : mark l t = some (l1, t1)) (h2 : rdf l1 n = some (x, 125 :: r, n2)) :
    flds rdf (f + 1) l n sub t = some (.node ⟨5, 0, t1⟩ (sub ++ [x]), r, n2) := by
  simp only [flds, h, Option.bind_some, h2]
theorem flds_next {rdf : List UInt8 → Nat → Option (Rose TL × List UInt8 × Nat)} {f n t t1 n2 : Nat} {l l1 r : List UInt8} {sub : List (Rose TL)} {x : Rose TL} (h : mark l t = some (l1, t1)) (h2 : rdf l1 n = some (x, 44 :: r, n2)) :
    flds rdf (f + 1) l n sub t = flds rdf f r n2 (sub ++ [x]) t1 := by
  simp only [flds, h, Option.bind_some, h2]
theorem flds_stop {rdf : List UInt8 → Nat → Option (Rose TL × List UInt8 × Nat)} {f n t t1 n2 : Nat} {l l1 l2 : List UInt8} {sub : List (Rose TL)} {x : Rose TL} (h : mark l t = some (l1, t1)) (h2 : rdf l1 n = some (x, l2, n2))
    (h3 : nextIs 125 l2 = false) (h4 : nextIs 44 l2 = false) : flds rdf (f + 1) l n sub t = none := by
  simp only [flds, h, Option.bind_some, h2]
  split
  · exact (nextIs_false h3 rfl).elim
  · exact (nextIs_false h4 rfl).elim
  · rfl
theorem tt_slice : Tryd.prog.underlying 22 = some (.slice TT) := Tryd.underlying22
theorem tt_info : (Tryd.prog.info? TT).map (fun i => (i.zero, i.size, i.bytes)) = some (some (.agg #[.int .i64 0, .int .i64 0, .slice none 0 0, .int .i64 0]), 4, 48) := by kernel_rfl
theorem tt_one : ∀ (a : TL) (o : Option Addr) (n c : Nat), ∀ u ∈ tshape.cells a (.slice o n c), u.oneCell' = true := by
  intro a o n c u hu
  simp [tshape] at hu
  rcases hu with rfl | rfl | rfl | rfl <;> rfl
/-- The Struct that is being read. -/
def StB (w : World) (g : Nat) (v : Value) (t : Nat) : Prop := Blk w g #[.int .i64 5, .int .i64 0, v, .int .i64 (t : Int)] TT
theorem StB.c3 {w : World} {g t : Nat} {v : Value} (h : StB w g v t) : w.cell? ⟨g, 3, none⟩ = some (.int .i64 (t : Int)) := Blk.cell h 3
theorem StB.c2 {w : World} {g t : Nat} {v : Value} (h : StB w g v t) : w.cell? ⟨g, 2, none⟩ = some v := Blk.cell h 2
theorem StB.more {w : World} {g t : Nat} {v : Value} (h : StB w g v t) : StB (w.setCell ⟨g, 3, none⟩ (.int .i64 ((t : Int) + 1))) g v (t + 1) := by
  have := Blk.set h 3 (.int .i64 ((t : Int) + 1))
  simpa [StB] using this
theorem StB.sub {w : World} {g t : Nat} {v : Value} (h : StB w g v t) (v' : Value) : StB (w.setCell ⟨g, 2, none⟩ v') g v' t := by
  have := Blk.set h 2 v'
  simpa [StB] using this
/-- The loop's state: result block, the Struct's block, the place, what is left, those that were read, their tails. -/
structure FSt (w0 : World) (b gr B : Nat) (s : ByteArray) (p l : Nat) (v : Value) (L : List (Elt TL)) (t : Nat) (w : World) : Prop where
  upd : Upd b w0 w
  rd : RdB w b s p l
  res : ∃ cs, Blk w gr cs TT ∧ cs.size = 4
  st : StB w (gr + 1) v t
  own : OwnT tshape TT w B v L
  hp : p ≤ s.size
  hl : l ≤ 64
  hlen : L.length ≤ 64
  ht : t ≤ 64
  hB : B ≤ w.heap.size
theorem put4_blk' {w : World} {g : Nat} {cs : Array Value} {a b c d : Value} {t : TypeId} (h : Blk w g cs t) (hs : cs.size = 4) : Blk (put4 w g a b c d) g #[a, b, c, d] t := by
  obtain ⟨l⟩ := cs
  match l, hs with
  | [x, y, z, u], _ => exact put4_blk h

set_option maxRecDepth 100000 in
/-- The call ends without a type. -/
theorem fields_none {R : Option (Rose TL × List UInt8 × Nat)} {b gr : Nat} {s : ByteArray} {w0 w : World} {p l : Nat} (hu : Upd b w0 w) (hr : RdB w b s p l) (hp : p ≤ s.size) (hl : l ≤ 64) (hg : ∃ cs, Blk w gr cs TT ∧ cs.size = 4) (hgr : w0.heap.size ≤ gr) (hb : b < w0.heap.size) (hR : R = none) :
    (put4 w gr (.int .i64 0) (.int .i64 0) (.slice none 0 0) (.int .i64 0)).cell? ⟨gr, 0, none⟩ = some (.int .i64 0) ∧ (put4 w gr (.int .i64 0) (.int .i64 0) (.slice none 0 0) (.int .i64 0)).cell? ⟨gr, 1, none⟩ = some (.int .i64 0) ∧
      (put4 w gr (.int .i64 0) (.int .i64 0) (.slice none 0 0) (.int .i64 0)).cell? ⟨gr, 2, none⟩ = some (.slice none 0 0) ∧ (put4 w gr (.int .i64 0) (.int .i64 0) (.slice none 0 0) (.int .i64 0)).cell? ⟨gr, 3, none⟩ = some (.int .i64 0) ∧
      ResPost R b s w0 (.returned (.tuple #[.agg #[.int .i64 0, .int .i64 0, .slice none 0 0, .int .i64 0], .bool false])) (put4 w gr (.int .i64 0) (.int .i64 0) (.slice none 0 0) (.int .i64 0)) := by
  obtain ⟨cs, hg1, hg2⟩ := hg
  have hB := put4_blk' (a := .int .i64 0) (b := .int .i64 0) (c := .slice none 0 0) (d := .int .i64 0) hg1 hg2
  exact ⟨hB.cell 0, hB.cell 1, hB.cell 2, hB.cell 3, ⟨0, 0, 0⟩, none, 0, 0, false, p, l, rfl, put4_upd hu hgr, put4_other hr (by omega), hp, hl, (fun h => by cases h), fun _ => hR⟩

theorem FSt.sub {w0 w w' : World} {b gr B p l t : Nat} {s : ByteArray} {v : Value} {L : List (Elt TL)} (h : FSt w0 b gr B s p l v L t w) (hu : Upd b w w') (hbgr : b < gr) (hgB : gr + 2 ≤ B) {p' l' : Nat} (hr : RdB w' b s p' l') (hp : p' ≤ s.size) (hl : l' ≤ 64) :
    FSt w0 b gr B s p' l' v L t w' := by
  obtain ⟨cs, h1, h2⟩ := h.res
  exact ⟨h.upd.trans hu, hr, ⟨cs, hu.blk h1 (by omega), h2⟩, hu.blk h.st (by omega), h.own.upd hu (by omega), hp, hl, h.hlen, h.ht, Nat.le_trans h.hB hu.size⟩
theorem FSt.more {w0 w : World} {b gr B p l t : Nat} {s : ByteArray} {v : Value} {L : List (Elt TL)} (h : FSt w0 b gr B s p l v L t w) (hbgr : b < gr) (hgB : gr + 2 ≤ B) (hw : w0.heap.size ≤ gr) (ht : t < 64) :
    FSt w0 b gr B s p l v L (t + 1) (w.setCell ⟨gr + 1, 3, none⟩ (.int .i64 ((t : Int) + 1))) := by
  obtain ⟨cs, h1, h2⟩ := h.res
  have hu : Upd (gr + 1) w (w.setCell ⟨gr + 1, 3, none⟩ (.int .i64 ((t : Int) + 1))) := (Upd.refl _ _).set 3 _
  exact ⟨h.upd.setNew (a := ⟨gr + 1, 3, none⟩) (show w0.heap.size ≤ gr + 1 by omega) _, Blk.setOther h.rd (by simp; omega) _, ⟨cs, h1.setOther (by simp) _, h2⟩, h.st.more, h.own.upd hu (by omega), h.hp, h.hl, h.hlen, by omega, by simpa [World.setCell] using h.hB⟩
/-- Behind the append, and the store of the slice. -/
theorem FSt.grown {w0 w w' : World} {b gr B p l t : Nat} {s : ByteArray} {v v' : Value} {L : List (Elt TL)} {y : Elt TL} (h : FSt w0 b gr B s p l v L t w) (hbgr : b < gr) (hgB : gr + 2 ≤ B) (hw : w0.heap.size ≤ gr) (hL : L.length < 64)
    (ho : OwnT tshape TT w' B v' (L ++ [y])) (hb : Below B w w') (hsz : w.heap.size < w'.heap.size) (hg : w.grownBy w' v.ownBlock) : FSt w0 b gr B s p l v' (L ++ [y]) t (w'.setCell ⟨gr + 1, 2, none⟩ v') := by
  obtain ⟨cs, h1, h2⟩ := h.res
  have hu : Upd (gr + 1) w' (w'.setCell ⟨gr + 1, 2, none⟩ v') := (Upd.refl _ _).set 2 _
  have hr : RdB w' b s p l := Below.blk hb h.rd (by omega)
  have hst : StB w' (gr + 1) v t := Below.blk hb h.st (by omega)
  have hup : Upd b w0 w' := ⟨hg.os.trans h.upd.os, hg.tape.trans h.upd.tape, hg.output.trans h.upd.output, Nat.le_trans h.upd.size hg.size, fun k hk hne => by
    rw [← h.upd.block k hk hne]
    refine hg.block k (Nat.lt_of_lt_of_le hk h.upd.size) fun e => ?_
    have := (h.own.block k e.symm).1
    omega⟩
  exact ⟨hup.setNew (a := ⟨gr + 1, 2, none⟩) (show w0.heap.size ≤ gr + 1 by omega) _, Blk.setOther hr (by simp; omega) _, ⟨cs, (Below.blk hb h1 (by omega)).setOther (by simp) _, h2⟩, hst.sub v', ho.upd hu (by omega), h.hp, h.hl, by simp; omega, h.ht, by simp [World.setCell]; have := h.hB; omega⟩
theorem FSt.c0 {w0 w : World} {b gr B p l t : Nat} {s : ByteArray} {v : Value} {L : List (Elt TL)} (h : FSt w0 b gr B s p l v L t w) : w.cell? ⟨gr + 1, 0, none⟩ = some (.int .i64 5) ∧ w.cell? ⟨gr + 1, 1, none⟩ = some (.int .i64 0) ∧
    w.cell? ⟨gr + 1, 2, none⟩ = some v ∧ w.cell? ⟨gr + 1, 3, none⟩ = some (.int .i64 (t : Int)) ∧ w.frozen? ⟨gr + 1, 2, none⟩ = false ∧ w.frozen? ⟨gr + 1, 3, none⟩ = false := by
  have := h.st
  exact ⟨Blk.cell this 0, Blk.cell this 1, Blk.cell this 2, Blk.cell this 3, Blk.free this 2, Blk.free this 3⟩
theorem FSt.r0 {w0 w : World} {b gr B p l t : Nat} {s : ByteArray} {v : Value} {L : List (Elt TL)} (h : FSt w0 b gr B s p l v L t w) : (∃ x, w.cell? ⟨gr, 0, none⟩ = some x) ∧ (∃ x, w.cell? ⟨gr, 1, none⟩ = some x) ∧ (∃ x, w.cell? ⟨gr, 2, none⟩ = some x) ∧ (∃ x, w.cell? ⟨gr, 3, none⟩ = some x) ∧
    w.frozen? ⟨gr, 0, none⟩ = false ∧ w.frozen? ⟨gr, 1, none⟩ = false ∧ w.frozen? ⟨gr, 2, none⟩ = false ∧ w.frozen? ⟨gr, 3, none⟩ = false := by
  obtain ⟨⟨l⟩, h1, h2⟩ := h.res
  match l, h2 with
  | [x, y, z, u], _ => exact ⟨⟨x, h1.cell 0⟩, ⟨y, h1.cell 1⟩, ⟨z, h1.cell 2⟩, ⟨u, h1.cell 3⟩, h1.free 0, h1.free 1, h1.free 2, h1.free 3⟩
set_option maxRecDepth 100000 in
theorem FSt.endNone {w0 w : World} {b gr B p l t : Nat} {s : ByteArray} {v : Value} {L : List (Elt TL)} (h : FSt w0 b gr B s p l v L t w) (hw : w0.heap.size ≤ gr) (hb : b < w0.heap.size) :
    (put4 w gr (.int .i64 0) (.int .i64 0) (.slice none 0 0) (.int .i64 0)).cell? ⟨gr, 0, none⟩ = some (.int .i64 0) ∧ (put4 w gr (.int .i64 0) (.int .i64 0) (.slice none 0 0) (.int .i64 0)).cell? ⟨gr, 1, none⟩ = some (.int .i64 0) ∧
      (put4 w gr (.int .i64 0) (.int .i64 0) (.slice none 0 0) (.int .i64 0)).cell? ⟨gr, 2, none⟩ = some (.slice none 0 0) ∧ (put4 w gr (.int .i64 0) (.int .i64 0) (.slice none 0 0) (.int .i64 0)).cell? ⟨gr, 3, none⟩ = some (.int .i64 0) ∧
      ResPost none b s w0 (.returned (.tuple #[.agg #[.int .i64 0, .int .i64 0, .slice none 0 0, .int .i64 0], .bool false])) (put4 w gr (.int .i64 0) (.int .i64 0) (.slice none 0 0) (.int .i64 0)) :=
  fields_none h.upd h.rd h.hp h.hl h.res hw hb rfl
set_option maxRecDepth 100000 in
theorem FSt.endSome {w0 w : World} {b gr B p l t : Nat} {s : ByteArray} {oa : Option Addr} {n cap : Nat} {L : List (Elt TL)} (h : FSt w0 b gr B s p l (.slice oa n cap) L t w) (hw : w0.heap.size ≤ gr) (hb : b < w0.heap.size) (hgB : gr + 2 ≤ B) :
    (put4 w gr (.int .i64 5) (.int .i64 0) (.slice oa n cap) (.int .i64 t)).cell? ⟨gr, 0, none⟩ = some (.int .i64 5) ∧ (put4 w gr (.int .i64 5) (.int .i64 0) (.slice oa n cap) (.int .i64 t)).cell? ⟨gr, 1, none⟩ = some (.int .i64 0) ∧
      (put4 w gr (.int .i64 5) (.int .i64 0) (.slice oa n cap) (.int .i64 t)).cell? ⟨gr, 2, none⟩ = some (.slice oa n cap) ∧ (put4 w gr (.int .i64 5) (.int .i64 0) (.slice oa n cap) (.int .i64 t)).cell? ⟨gr, 3, none⟩ = some (.int .i64 t) ∧
      ResPost (some (.node ⟨5, 0, t⟩ (L.map Elt.tree), tailS s p, l)) b s w0 (.returned (.tuple #[.agg #[.int .i64 5, .int .i64 0, .slice oa n cap, .int .i64 t], .bool true])) (put4 w gr (.int .i64 5) (.int .i64 0) (.slice oa n cap) (.int .i64 t)) := by
  obtain ⟨cs, hg1, hg2⟩ := h.res
  have hB := put4_blk' (a := .int .i64 5) (b := .int .i64 0) (c := .slice oa n cap) (d := .int .i64 t) hg1 hg2
  have ht := h.ht
  refine ⟨hB.cell 0, hB.cell 1, hB.cell 2, hB.cell 3, ⟨5, 0, t⟩, oa, n, cap, true, p, l, rfl, put4_upd h.upd hw, put4_other h.rd (by omega), h.hp, h.hl, (fun _ => ⟨L.map Elt.tree, rfl, ⟨rfl, rfl, ?_⟩, ?_⟩), fun h => by cases h⟩
  · have h1 : IntKind.i64.min = -9223372036854775808 := rfl
    have h2 : IntKind.i64.max = 9223372036854775807 := rfl
    simp [Lit.wf, h1, h2]; omega
  · exact (put4_subs h.own.subs (fun k hk => by omega)).keep (Nat.le_refl _) (fun k _ hk => by omega) fun _ _ _ => rfl

set_option maxRecDepth 100000 in
set_option maxHeartbeats 4000000 in
theorem rd_fields (D dep : Nat) (b : Nat) (s : ByteArray) (hs : s.size ≤ maxLen) (hdep : dep ≤ 8)
    (ih : ∀ (p l : Nat) (w : World), p ≤ s.size → l ≤ 64 → RdB w b s p l → Calls Tryd.prog 23 #[.pointer (some ⟨b, 0, none⟩), .int .i64 ((dep : Int) + 1)] w (ResPost (rd D (tailS s p) l) b s w))
    (p l : Nat) (w : World) (hp : p ≤ s.size) (hl : l ≤ 63) (hb : RdB w b s p l) :
    Calls Tryd.prog 35 #[.pointer (some ⟨b, 0, none⟩), .int .i64 (dep : Int)] w
      (ResPost (if nextIs 125 (tailS s p) then some (.node ⟨5, 0, 0⟩ [], tailS s (p + 1), l) else flds (rd D) (l + 2) (tailS s p) l [] 0) b s w) := by
  obtain ⟨g, hg⟩ : ∃ g, w.heap.size = g := ⟨_, rfl⟩
  have hbg : b < g := hg ▸ hb.lt
  have HA : Hid (∀ W, (w.alloc (.cells #[.int .i64 0, .int .i64 0, .slice none 0 0, .int .i64 0] TT)).alloc (.cells #[.int .i64 5, .int .i64 0, .slice none 0 0, .int .i64 0] TT) = W → FSt w b g (g + 2) s p l (.slice none 0 0) [] 0 W) := Lib.hid fun W h => by
    subst h
    have hal := (Below.refl w.heap.size w).alloc (Nat.le_refl _) (.cells #[.int .i64 0, .int .i64 0, .slice none 0 0, .int .i64 0] TT)
    have hb1 := Blk.new w #[.int .i64 0, .int .i64 0, .slice none 0 0, .int .i64 0] TT
    have hr1 := hb.below hal
    have hs1 : (w.alloc (.cells #[.int .i64 0, .int .i64 0, .slice none 0 0, .int .i64 0] TT)).heap.size = g + 1 := by simp; omega
    generalize w.alloc (.cells #[.int .i64 0, .int .i64 0, .slice none 0 0, .int .i64 0] TT) = w1 at *
    have hal2 := (Below.refl w1.heap.size w1).alloc (Nat.le_refl _) (.cells #[.int .i64 5, .int .i64 0, .slice none 0 0, .int .i64 0] TT)
    have hb2 := Blk.new w1 #[.int .i64 5, .int .i64 0, .slice none 0 0, .int .i64 0] TT
    rw [hs1] at hb2
    rw [hg] at hb1
    refine ⟨(Upd.of hal).trans (Upd.of hal2), hr1.below hal2, ⟨_, Below.blk hal2 hb1 (by omega), rfl⟩, hb2, OwnT.nil _ _ _ _, hp, by omega, by simp, by simp, by simp; omega⟩
  have hw0 : w.heap.size ≤ g := by omega
  have hb0 : b < w.heap.size := hb.lt
  have IH := Lib.hid ih
  have HS := Lib.hid hs
  obtain ⟨R, hR⟩ : ∃ R, (if nextIs 125 (tailS s p) then some (.node ⟨5, 0, 0⟩ [], tailS s (p + 1), l) else flds (rd D) (l + 2) (tailS s p) l [] 0) = R := ⟨_, rfl⟩
  have HR := Lib.hid hR
  rw [hR]
  obtain ⟨POST, hP⟩ : ∃ POST, ResPost R b s w = POST := ⟨_, rfl⟩
  have HP := Lib.hid hP
  rw [hP]
  have HC := Lib.hid (And.intro hbg (And.intro hw0 hb0))
  clear hR hP ih hb hs hw0 hb0
  obtain ⟨i0, hi, hz0, hz1, hz2⟩ := info_parts tt_info
  go_enter Tryd.func35, Tryd.ntmps35
  go_upto_region 2 with fail
  generalize (w.alloc (.cells #[.int .i64 0, .int .i64 0, .slice none 0 0, .int .i64 0] TT)).alloc (.cells #[.int .i64 5, .int .i64 0, .slice none 0 0, .int .i64 0] TT) = w1 at *
  have F1 := Lib.hid (HA.out _ rfl)
  have CP : Hid (Calls Tryd.prog 34 #[.pointer (some ⟨b, 0, none⟩), .int .u8 125] w1 fun e w' => e = .returned (.bool (nextIs 125 (tailS s p))) ∧ Upd b w1 w' ∧ RdB w' b s (if nextIs 125 (tailS s p) then p + 1 else p) l) :=
    Lib.hid (rd_passes b s p l 125 w1 HS.out hp F1.out.rd)
  clear HA
  cases hq : nextIs 125 (tailS s p) with
  | true =>
    rw [hq] at CP HR
    have HQ := Lib.hid (nextIs_true hp hq)
    clear hq
    go_wp2_with fail
    refine (CP.out).mono ?_
    rintro e w2 ⟨rfl, hu2, hr2⟩
    have F2 := Lib.hid (F1.out.sub hu2 HC.out.1 (Nat.le_refl _) (show RdB w2 b s (p + 1) l from by simpa using hr2) (by have := HQ.out.1; omega) (by omega))
    obtain ⟨c0, c1, c2, c3, z2, z3⟩ := F2.out.c0
    obtain ⟨⟨x0, r0⟩, ⟨x1, r1⟩, ⟨x2, r2⟩, ⟨x3, r3⟩, y0, y1, y2, y3⟩ := F2.out.r0
    clear hu2 hr2
    go_wp2_with fail
    rw [put4_eq]
    have hfin := F2.out.endSome HC.out.2.1 HC.out.2.2 (Nat.le_refl _)
    simp only [show ((0 : Nat) : Int) = 0 from rfl] at hfin
    obtain ⟨e0, e1, e2, e3, hpost⟩ := hfin
    refine bodyPost_ret (v := .tuple #[.agg #[.int .i64 5, .int .i64 0, .slice none 0 0, .int .i64 0], .bool true]) (by
      simp [results, Tryd.results35, go_sem, e0, e1, e2, e3]) rfl ?_
    rw [← HP.out, ← HR.out]
    exact hpost
  | false =>
    rw [hq] at CP HR
    clear hq
    go_wp2_with fail
    refine (CP.out).mono ?_
    rintro e w2 ⟨rfl, hu2, hr2⟩
    have F2 := Lib.hid (F1.out.sub hu2 HC.out.1 (Nat.le_refl _) (show RdB w2 b s p l from by simpa using hr2) hp (by omega))
    clear hu2 hr2 CP F1
    go_wp2_with fail
    go_loopw [7, 8] (fun _ _ wi => ∃ (f p l t : Nat) (v : Value) (L : List (Elt TL)), Hid (FSt w b g (g + 2) s p l v L t wi) ∧ l < f ∧ Hid (R = flds (rd D) f (tailS s p) l (L.map Elt.tree) t) ∧ L.length + l ≤ 63 ∧ t ≤ L.length ∧ p ≤ s.size)
      (fun _ _ wi => match wi.cell? ⟨b, 2, none⟩ with | some v => (intOf v).toNat | none => 0)
    case atStart => exact ⟨l + 2, p, l, 0, .slice none 0 0, [], Lib.hid F2.out, by omega, Lib.hid (by rw [← HR.out]; simp), by simp; omega, by simp, hp⟩
    case round =>
      clear F2 HR hp hl
      obtain ⟨f, p, l, t, v, L, F, hf, HR, hLl, htL, hp⟩ := hrel
      obtain ⟨f, rfl⟩ : ∃ f', f = f' + 1 := ⟨f - 1, by omega⟩
      have hl : l ≤ 63 := by omega
      obtain ⟨oa, cap, rfl⟩ := F.out.own.slice
      obtain ⟨c0, c1, c2, c3, z2, z3⟩ := F.out.c0
      have CQ : Hid (Calls Tryd.prog 34 #[.pointer (some ⟨b, 0, none⟩), .int .u8 63] wr fun e w' => e = .returned (.bool (nextIs 63 (tailS s p))) ∧ Upd b wr w' ∧ RdB w' b s (if nextIs 63 (tailS s p) then p + 1 else p) l) :=
        Lib.hid (rd_passes b s p l 63 wr HS.out hp F.out.rd)
      have HMS : Hid (wr.cell? ⟨b, 2, none⟩ = some (.int .i64 (l : Int))) := Lib.hid F.out.rd.c2
      obtain ⟨M, hM⟩ : ∃ M, L.length = M := ⟨_, rfl⟩
      have HM := Lib.hid hM
      have HMARK : Hid (nextIs 63 (tailS s p) = true → mark (tailS s p) t = some (tailS s (p + 1), t + 1) ∧ p < s.size) := Lib.hid fun h => ⟨mark_yes hp h, (nextIs_true hp h).1⟩
      have HMARK2 : Hid (nextIs 63 (tailS s p) = false → mark (tailS s p) t = if 0 < t then none else some (tailS s p, t)) := Lib.hid fun h => mark_no h
      rw [hM] at hLl htL F c2
      clear hM
      cases hq : nextIs 63 (tailS s p) with
      | true =>
        rw [hq] at CQ
        have HQ := Lib.hid (HMARK.out hq)
        clear hq HMARK HMARK2
        go_wp2_with fail
        refine (CQ.out).mono ?_
        rintro e w2 ⟨rfl, hu2, hr2⟩
        have F2 := Lib.hid (F.out.sub hu2 HC.out.1 (Nat.le_refl _) (show RdB w2 b s (p + 1) l from by simpa using hr2) (by have := HQ.out.2; omega) (by omega))
        clear hu2 hr2 c0 c1 c2 c3 z2 z3 F
        obtain ⟨c0, c1, c2, c3, z2, z3⟩ := F2.out.c0
        go_upto_region 8 with fail
        have F3 := Lib.hid (F2.out.more HC.out.1 (Nat.le_refl _) HC.out.2.1 (by omega))
        generalize w2.setCell ⟨g + 1, 3, none⟩ (.int .i64 ((t : Int) + 1)) = w3 at *
        have HMK := Lib.hid HQ.out.1
        have hp1 : p + 1 ≤ s.size := by have := HQ.out.2; omega
        have ht1 : t + 1 ≤ M + 1 := by omega
        clear c0 c1 c2 c3 z2 z3 F2 HQ
        have CR := Lib.hid (IH.out (p + 1) l w3 hp1 (by omega) F3.out.rd)
        go_wp2_with fail
        refine (CR.out).mono ?_
        rintro e w4 ⟨a, o, n, c, ok, p2, l2, rfl, hu4, hr4, hp4, hl4, hok, hno⟩
        have F4 := Lib.hid (F3.out.sub hu4 HC.out.1 (Nat.le_refl _) hr4 hp4 hl4)
        have HS3 := Lib.hid F3.out.own.block
        have HB3 := Lib.hid F3.out.hB
        have HU4 := Lib.hid hu4
        clear hu4 hr4 CR
        cases ok with
        | false =>
          have HN := Lib.hid (hno rfl)
          clear hok hno
          have F5 : Hid (∀ o, FSt w b g (g + 2) s p2 l2 (.slice oa M cap) L (t + 1) (w4.alloc o)) := Lib.hid fun o => by
            have hal := (Below.refl w4.heap.size w4).alloc (Nat.le_refl _) o
            exact F4.out.sub (Upd.of hal) HC.out.1 (Nat.le_refl _) (F4.out.rd.below hal) hp4 hl4
          go_upto_region 9 with fail
          have F6 := Lib.hid (F5.out (.cells #[.int .i64 a.kind, .int .i64 a.size, .slice o n c, .int .i64 a.tail] TT))
          generalize w4.alloc (.cells #[.int .i64 a.kind, .int .i64 a.size, .slice o n c, .int .i64 a.tail] TT) = w5 at *
          obtain ⟨⟨x0, r0⟩, ⟨x1, r1⟩, ⟨x2, r2⟩, ⟨x3, r3⟩, y0, y1, y2, y3⟩ := F6.out.r0
          go_wp2_with fail
          rw [put4_eq]
          obtain ⟨e0, e1, e2, e3, hpost⟩ := F6.out.endNone HC.out.2.1 HC.out.2.2
          refine bodyPost_ret (v := .tuple #[.agg #[.int .i64 0, .int .i64 0, .slice none 0 0, .int .i64 0], .bool false]) (by simp [results, Tryd.results35, go_sem, e0, e1, e2, e3]) rfl ?_
          rw [← HP.out, HR.out, flds_none2 HMK.out HN.out]
          exact hpost
        | true =>
          have HOK := Lib.hid (hok rfl)
          clear hok hno
          have F5 : Hid (∀ W, w4.alloc (.cells #[.int .i64 a.kind, .int .i64 a.size, .slice o n c, .int .i64 a.tail] TT) = W → FSt w b g (g + 2) s p2 l2 (.slice oa M cap) L (t + 1) W ∧ Blk W w4.heap.size #[.int .i64 a.kind, .int .i64 a.size, .slice o n c, .int .i64 a.tail] TT ∧ Below w4.heap.size w4 W) := Lib.hid fun W h => by
            subst h
            have hal := (Below.refl w4.heap.size w4).alloc (Nat.le_refl _) (.cells #[.int .i64 a.kind, .int .i64 a.size, .slice o n c, .int .i64 a.tail] TT)
            exact ⟨F4.out.sub (Upd.of hal) HC.out.1 (Nat.le_refl _) (F4.out.rd.below hal) hp4 hl4, Blk.new w4 _ _, hal⟩
          go_upto_region 9 with fail
          generalize w4.alloc (.cells #[.int .i64 a.kind, .int .i64 a.size, .slice o n c, .int .i64 a.tail] TT) = w5 at *
          obtain ⟨hF5, hB5, hbl5⟩ := F5.out _ rfl
          have F6 := Lib.hid hF5
          obtain ⟨c0, c1, c2, c3, z2, z3⟩ := F6.out.c0
          have q0 := hB5.cell 0
          have q1 := hB5.cell 1
          have q2 := hB5.cell 2
          have q3 := hB5.cell 3
          simp only [List.getElem?_toArray, List.getElem?_cons_zero, List.getElem?_cons_succ] at q0 q1 q2 q3
          have HSUB : Hid (∃ sub, rd D (tailS s (p + 1)) l = some (.node a sub, tailS s p2, l2) ∧ TL.wf a ∧ tshape.Subs w5 (fun k => g + 2 ≤ k ∧ (Value.slice oa M cap).ownBlock ≠ some k) (.slice o n c) sub) := Lib.hid (by
            obtain ⟨sub, h1, h2, h3⟩ := HOK.out
            refine ⟨sub, h1, h2, h3.keep hbl5.size (fun k hk hq => ⟨?_, fun e => ?_⟩) fun k hk hq => hbl5.block k hk⟩
            · have := HB3.out; omega
            · have := (HS3.out k e).2; omega)
          clear F5 hF5 hB5 hbl5 F4 HOK
          obtain ⟨sub, HRD, hwfa, hsub5⟩ := HSUB.out
          have HRD := Lib.hid HRD
          have HWF := Lib.hid hwfa
          have HS5 := Lib.hid hsub5
          have hB5 : g + 2 ≤ w5.heap.size := F6.out.hB
          have HOWN := Lib.hid F6.out.own
          have HCNT := Lib.hid (rd_ps _ _ _ _ HRD.out).2.1
          clear HSUB hwfa hsub5
          go_upto_region 12 with (at_builtin; refine append_tree (S := tshape) tt_slice hi hz0 hz1 hz2 rfl (by decide) tt_one rfl (.tmp 34) (.tmp 36) rfl (g + 2) (.slice oa M cap) L ⟨a, .slice o n c, sub⟩ w5 _ rfl rfl HOWN.out rfl (by have := HM.out; omega) (by decide) hB5 HWF.out HS5.out ?_; intro g2 cap2 w6 hown6 hb6 hsz6 hgr6; have hcc : w6.cell? ⟨g + 1, 2, none⟩ = some (.slice oa M cap) := (hb6.cell (p := ⟨g + 1, 2, none⟩) (show g + 1 < g + 2 by omega)).trans c2; have hfz : w6.frozen? ⟨g + 1, 2, none⟩ = false := (hb6.frozen (p := ⟨g + 1, 2, none⟩) (show g + 1 < g + 2 by omega)).trans z2)
          have F7 := Lib.hid (F6.out.grown HC.out.1 (Nat.le_refl _) HC.out.2.1 (by have := HM.out; omega) hown6 hb6 hsz6 hgr6)
          generalize w6.setCell ⟨g + 1, 2, none⟩ (.slice (some ⟨g2, 0, none⟩) (L.length + 1) cap2) = w7 at *
          have HTR : Hid ((L ++ [(⟨a, .slice o n c, sub⟩ : Elt TL)]).map Elt.tree = L.map Elt.tree ++ [.node a sub]) := Lib.hid (by simp [Elt.tree])
          have HLN : Hid ((L ++ [(⟨a, .slice o n c, sub⟩ : Elt TL)]).length = M + 1) := Lib.hid (by rw [List.length_append, HM.out]; rfl)
          obtain ⟨L2, hL2⟩ : ∃ L2, L ++ [(⟨a, .slice o n c, sub⟩ : Elt TL)] = L2 := ⟨_, rfl⟩
          rw [hL2] at HTR HLN F7
          have hcp := Rose.count_pos (Rose.node a sub)
          have hl2 : l2 < l := by have := HCNT.out; simp only at this; omega
          clear hcc hfz hown6 hb6 hsz6 hgr6 c0 c1 c2 c3 z2 z3 q0 q1 q2 q3 HOWN HS5 HWF hL2 hcp HCNT
          rw [HM.out] at F7
          have CP2 : Hid (Calls Tryd.prog 34 #[.pointer (some ⟨b, 0, none⟩), .int .u8 125] w7 fun e w' => e = .returned (.bool (nextIs 125 (tailS s p2))) ∧ Upd b w7 w' ∧ RdB w' b s (if nextIs 125 (tailS s p2) then p2 + 1 else p2) l2) :=
            Lib.hid (rd_passes b s p2 l2 125 w7 HS.out hp4 F7.out.rd)
          have HNT := Lib.hid (fun h => nextIs_true (c := 125) (s := s) (p := p2) hp4 h)
          have HNT2 := Lib.hid (fun h => nextIs_true (c := 44) (s := s) (p := p2) hp4 h)
          cases hq1 : nextIs 125 (tailS s p2) with
          | true =>
            rw [hq1] at CP2
            have HQ1 := Lib.hid (HNT.out hq1)
            clear hq1
            go_wp2_with fail
            refine (CP2.out).mono ?_
            rintro e w8 ⟨rfl, hu8, hr8⟩
            have F8 := Lib.hid (F7.out.sub hu8 HC.out.1 (Nat.le_refl _) (show RdB w8 b s (p2 + 1) l2 from by simpa using hr8) (by have := HQ1.out.1; omega) (by omega))
            clear hu8 hr8
            obtain ⟨c0, c1, c2, c3, z2, z3⟩ := F8.out.c0
            obtain ⟨⟨x0, r0⟩, ⟨x1, r1⟩, ⟨x2, r2⟩, ⟨x3, r3⟩, y0, y1, y2, y3⟩ := F8.out.r0
            rw [HM.out]
            go_wp2_with fail
            rw [put4_eq]
            have hfin := F8.out.endSome HC.out.2.1 HC.out.2.2 (Nat.le_refl _)
            try simp only [show ((0 : Nat) : Int) = 0 from rfl] at hfin
            obtain ⟨e0, e1, e2, e3, hpost⟩ := hfin
            refine bodyPost_ret (v := .tuple #[.agg #[.int .i64 5, .int .i64 0, .slice (some ⟨g2, 0, none⟩) (M + 1) cap2, .int .i64 ((t : Int) + 1)], .bool true]) (by simp [results, Tryd.results35, go_sem] at e0 e1 e2 e3 ⊢; simp [go_sem, e0, e1, e2, e3]) rfl ?_
            have h1 := HRD.out
            rw [HQ1.out.2] at h1
            rw [← HP.out, HR.out, flds_end HMK.out h1, ← HTR.out]
            exact hpost
          | false =>
            rw [hq1] at CP2
            have HQ1 := Lib.hid hq1
            clear hq1
            go_wp2_with fail
            refine (CP2.out).mono ?_
            rintro e w8 ⟨rfl, hu8, hr8⟩
            have F8 := Lib.hid (F7.out.sub hu8 HC.out.1 (Nat.le_refl _) (show RdB w8 b s p2 l2 from by simpa using hr8) hp4 (by omega))
            clear hu8 hr8
            have CP3 : Hid (Calls Tryd.prog 34 #[.pointer (some ⟨b, 0, none⟩), .int .u8 44] w8 fun e w' => e = .returned (.bool (nextIs 44 (tailS s p2))) ∧ Upd b w8 w' ∧ RdB w' b s (if nextIs 44 (tailS s p2) then p2 + 1 else p2) l2) :=
              Lib.hid (rd_passes b s p2 l2 44 w8 HS.out hp4 F8.out.rd)
            cases hq2 : nextIs 44 (tailS s p2) with
            | true =>
              rw [hq2] at CP3
              have HQ2 := Lib.hid (HNT2.out hq2)
              clear hq2
              go_wp2_with fail
              refine (CP3.out).mono ?_
              rintro e w9 ⟨rfl, hu9, hr9⟩
              have F9 := Lib.hid (F8.out.sub hu9 HC.out.1 (Nat.le_refl _) (show RdB w9 b s (p2 + 1) l2 from by simpa using hr9) (by have := HQ2.out.1; omega) (by omega))
              clear hu9 hr9
              go_wp2_with fail
              have h1 := HRD.out
              rw [HQ2.out.2] at h1
              have h3 := HLN.out
              refine ⟨⟨f, p2 + 1, l2, t + 1, _, L2, Lib.hid F9.out, by omega, Lib.hid (by rw [HR.out, flds_next HMK.out h1, HTR.out]), by omega, by omega, by have := HQ2.out.1; omega⟩, ?_⟩
              have e1 := F9.out.rd.c2
              have e2 := HMS.out
              simp only [e1, e2, intOf, Int.toNat_natCast]
              exact hl2
            | false =>
              rw [hq2] at CP3
              have HQ2 := Lib.hid hq2
              clear hq2
              go_wp2_with fail
              refine (CP3.out).mono ?_
              rintro e w9 ⟨rfl, hu9, hr9⟩
              have F9 := Lib.hid (F8.out.sub hu9 HC.out.1 (Nat.le_refl _) (show RdB w9 b s p2 l2 from by simpa using hr9) hp4 (by omega))
              clear hu9 hr9
              obtain ⟨⟨x0, r0⟩, ⟨x1, r1⟩, ⟨x2, r2⟩, ⟨x3, r3⟩, y0, y1, y2, y3⟩ := F9.out.r0
              go_wp2_with fail
              rw [put4_eq]
              obtain ⟨e0, e1, e2, e3, hpost⟩ := F9.out.endNone HC.out.2.1 HC.out.2.2
              refine bodyPost_ret (v := .tuple #[.agg #[.int .i64 0, .int .i64 0, .slice none 0 0, .int .i64 0], .bool false]) (by simp [results, Tryd.results35, go_sem, e0, e1, e2, e3]) rfl ?_
              rw [← HP.out, HR.out, flds_stop HMK.out HRD.out HQ1.out HQ2.out]
              exact hpost
      | false =>
        rw [hq] at CQ
        have HQ := Lib.hid (HMARK2.out hq)
        clear hq HMARK HMARK2
        by_cases h0 : 0 < t
        · have d0 : decide (0 < (t : Int)) = true := by simp; omega
          have HH := Lib.hid h0
          clear h0
          go_wp2_with fail
          refine (CQ.out).mono ?_
          rintro e w2 ⟨rfl, hu2, hr2⟩
          have F2 := Lib.hid (F.out.sub hu2 HC.out.1 (Nat.le_refl _) (show RdB w2 b s p l from by simpa using hr2) hp (by omega))
          clear hu2 hr2 c0 c1 c2 c3 z2 z3 F
          obtain ⟨c0, c1, c2, c3, z2, z3⟩ := F2.out.c0
          obtain ⟨⟨x0, r0⟩, ⟨x1, r1⟩, ⟨x2, r2⟩, ⟨x3, r3⟩, y0, y1, y2, y3⟩ := F2.out.r0
          go_wp2_with fail
          rw [put4_eq]
          obtain ⟨e0, e1, e2, e3, hpost⟩ := F2.out.endNone HC.out.2.1 HC.out.2.2
          refine bodyPost_ret (v := .tuple #[.agg #[.int .i64 0, .int .i64 0, .slice none 0 0, .int .i64 0], .bool false]) (by simp [results, Tryd.results35, go_sem, e0, e1, e2, e3]) rfl ?_
          rw [← HP.out, HR.out, flds_none1 (by rw [HQ.out, if_pos HH.out])]
          exact hpost
        · obtain rfl : t = 0 := by omega
          clear h0
          go_wp2_with fail
          refine (CQ.out).mono ?_
          rintro e w2 ⟨rfl, hu2, hr2⟩
          have F2 := Lib.hid (F.out.sub hu2 HC.out.1 (Nat.le_refl _) (show RdB w2 b s p l from by simpa using hr2) hp (by omega))
          clear hu2 hr2 c0 c1 c2 c3 z2 z3 F
          obtain ⟨c0, c1, c2, c3, z2, z3⟩ := F2.out.c0
          go_upto_region 8 with fail
          have HMK : Hid (mark (tailS s p) 0 = some (tailS s p, 0)) := Lib.hid (by rw [HQ.out]; simp)
          have F3 := Lib.hid F2.out
          generalize w2 = w3 at *
          have hp1 : p ≤ s.size := hp
          have ht1 : 0 ≤ M + 1 := by omega
          clear c0 c1 c2 c3 z2 z3 F2 HQ
          have CR := Lib.hid (IH.out (p) l w3 hp1 (by omega) F3.out.rd)
          go_wp2_with fail
          refine (CR.out).mono ?_
          rintro e w4 ⟨a, o, n, c, ok, p2, l2, rfl, hu4, hr4, hp4, hl4, hok, hno⟩
          have F4 := Lib.hid (F3.out.sub hu4 HC.out.1 (Nat.le_refl _) hr4 hp4 hl4)
          have HS3 := Lib.hid F3.out.own.block
          have HB3 := Lib.hid F3.out.hB
          have HU4 := Lib.hid hu4
          clear hu4 hr4 CR
          cases ok with
          | false =>
            have HN := Lib.hid (hno rfl)
            clear hok hno
            have F5 : Hid (∀ o, FSt w b g (g + 2) s p2 l2 (.slice oa M cap) L (0) (w4.alloc o)) := Lib.hid fun o => by
              have hal := (Below.refl w4.heap.size w4).alloc (Nat.le_refl _) o
              exact F4.out.sub (Upd.of hal) HC.out.1 (Nat.le_refl _) (F4.out.rd.below hal) hp4 hl4
            go_upto_region 9 with fail
            have F6 := Lib.hid (F5.out (.cells #[.int .i64 a.kind, .int .i64 a.size, .slice o n c, .int .i64 a.tail] TT))
            generalize w4.alloc (.cells #[.int .i64 a.kind, .int .i64 a.size, .slice o n c, .int .i64 a.tail] TT) = w5 at *
            obtain ⟨⟨x0, r0⟩, ⟨x1, r1⟩, ⟨x2, r2⟩, ⟨x3, r3⟩, y0, y1, y2, y3⟩ := F6.out.r0
            go_wp2_with fail
            rw [put4_eq]
            obtain ⟨e0, e1, e2, e3, hpost⟩ := F6.out.endNone HC.out.2.1 HC.out.2.2
            refine bodyPost_ret (v := .tuple #[.agg #[.int .i64 0, .int .i64 0, .slice none 0 0, .int .i64 0], .bool false]) (by simp [results, Tryd.results35, go_sem, e0, e1, e2, e3]) rfl ?_
            rw [← HP.out, HR.out, flds_none2 HMK.out HN.out]
            exact hpost
          | true =>
            have HOK := Lib.hid (hok rfl)
            clear hok hno
            have F5 : Hid (∀ W, w4.alloc (.cells #[.int .i64 a.kind, .int .i64 a.size, .slice o n c, .int .i64 a.tail] TT) = W → FSt w b g (g + 2) s p2 l2 (.slice oa M cap) L (0) W ∧ Blk W w4.heap.size #[.int .i64 a.kind, .int .i64 a.size, .slice o n c, .int .i64 a.tail] TT ∧ Below w4.heap.size w4 W) := Lib.hid fun W h => by
              subst h
              have hal := (Below.refl w4.heap.size w4).alloc (Nat.le_refl _) (.cells #[.int .i64 a.kind, .int .i64 a.size, .slice o n c, .int .i64 a.tail] TT)
              exact ⟨F4.out.sub (Upd.of hal) HC.out.1 (Nat.le_refl _) (F4.out.rd.below hal) hp4 hl4, Blk.new w4 _ _, hal⟩
            go_upto_region 9 with fail
            generalize w4.alloc (.cells #[.int .i64 a.kind, .int .i64 a.size, .slice o n c, .int .i64 a.tail] TT) = w5 at *
            obtain ⟨hF5, hB5, hbl5⟩ := F5.out _ rfl
            have F6 := Lib.hid hF5
            obtain ⟨c0, c1, c2, c3, z2, z3⟩ := F6.out.c0
            have q0 := hB5.cell 0
            have q1 := hB5.cell 1
            have q2 := hB5.cell 2
            have q3 := hB5.cell 3
            simp only [List.getElem?_toArray, List.getElem?_cons_zero, List.getElem?_cons_succ] at q0 q1 q2 q3
            have HSUB : Hid (∃ sub, rd D (tailS s (p)) l = some (.node a sub, tailS s p2, l2) ∧ TL.wf a ∧ tshape.Subs w5 (fun k => g + 2 ≤ k ∧ (Value.slice oa M cap).ownBlock ≠ some k) (.slice o n c) sub) := Lib.hid (by
              obtain ⟨sub, h1, h2, h3⟩ := HOK.out
              refine ⟨sub, h1, h2, h3.keep hbl5.size (fun k hk hq => ⟨?_, fun e => ?_⟩) fun k hk hq => hbl5.block k hk⟩
              · have := HB3.out; omega
              · have := (HS3.out k e).2; omega)
            clear F5 hF5 hB5 hbl5 F4 HOK
            obtain ⟨sub, HRD, hwfa, hsub5⟩ := HSUB.out
            have HRD := Lib.hid HRD
            have HWF := Lib.hid hwfa
            have HS5 := Lib.hid hsub5
            have hB5 : g + 2 ≤ w5.heap.size := F6.out.hB
            have HOWN := Lib.hid F6.out.own
            have HCNT := Lib.hid (rd_ps _ _ _ _ HRD.out).2.1
            clear HSUB hwfa hsub5
            go_upto_region 12 with (at_builtin; refine append_tree (S := tshape) tt_slice hi hz0 hz1 hz2 rfl (by decide) tt_one rfl (.tmp 34) (.tmp 36) rfl (g + 2) (.slice oa M cap) L ⟨a, .slice o n c, sub⟩ w5 _ rfl rfl HOWN.out rfl (by have := HM.out; omega) (by decide) hB5 HWF.out HS5.out ?_; intro g2 cap2 w6 hown6 hb6 hsz6 hgr6; have hcc : w6.cell? ⟨g + 1, 2, none⟩ = some (.slice oa M cap) := (hb6.cell (p := ⟨g + 1, 2, none⟩) (show g + 1 < g + 2 by omega)).trans c2; have hfz : w6.frozen? ⟨g + 1, 2, none⟩ = false := (hb6.frozen (p := ⟨g + 1, 2, none⟩) (show g + 1 < g + 2 by omega)).trans z2)
            have F7 := Lib.hid (F6.out.grown HC.out.1 (Nat.le_refl _) HC.out.2.1 (by have := HM.out; omega) hown6 hb6 hsz6 hgr6)
            generalize w6.setCell ⟨g + 1, 2, none⟩ (.slice (some ⟨g2, 0, none⟩) (L.length + 1) cap2) = w7 at *
            have HTR : Hid ((L ++ [(⟨a, .slice o n c, sub⟩ : Elt TL)]).map Elt.tree = L.map Elt.tree ++ [.node a sub]) := Lib.hid (by simp [Elt.tree])
            have HLN : Hid ((L ++ [(⟨a, .slice o n c, sub⟩ : Elt TL)]).length = M + 1) := Lib.hid (by rw [List.length_append, HM.out]; rfl)
            obtain ⟨L2, hL2⟩ : ∃ L2, L ++ [(⟨a, .slice o n c, sub⟩ : Elt TL)] = L2 := ⟨_, rfl⟩
            rw [hL2] at HTR HLN F7
            have hcp := Rose.count_pos (Rose.node a sub)
            have hl2 : l2 < l := by have := HCNT.out; simp only at this; omega
            clear hcc hfz hown6 hb6 hsz6 hgr6 c0 c1 c2 c3 z2 z3 q0 q1 q2 q3 HOWN HS5 HWF hL2 hcp HCNT
            rw [HM.out] at F7
            have CP2 : Hid (Calls Tryd.prog 34 #[.pointer (some ⟨b, 0, none⟩), .int .u8 125] w7 fun e w' => e = .returned (.bool (nextIs 125 (tailS s p2))) ∧ Upd b w7 w' ∧ RdB w' b s (if nextIs 125 (tailS s p2) then p2 + 1 else p2) l2) :=
              Lib.hid (rd_passes b s p2 l2 125 w7 HS.out hp4 F7.out.rd)
            have HNT := Lib.hid (fun h => nextIs_true (c := 125) (s := s) (p := p2) hp4 h)
            have HNT2 := Lib.hid (fun h => nextIs_true (c := 44) (s := s) (p := p2) hp4 h)
            cases hq1 : nextIs 125 (tailS s p2) with
            | true =>
              rw [hq1] at CP2
              have HQ1 := Lib.hid (HNT.out hq1)
              clear hq1
              go_wp2_with fail
              refine (CP2.out).mono ?_
              rintro e w8 ⟨rfl, hu8, hr8⟩
              have F8 := Lib.hid (F7.out.sub hu8 HC.out.1 (Nat.le_refl _) (show RdB w8 b s (p2 + 1) l2 from by simpa using hr8) (by have := HQ1.out.1; omega) (by omega))
              clear hu8 hr8
              obtain ⟨c0, c1, c2, c3, z2, z3⟩ := F8.out.c0
              obtain ⟨⟨x0, r0⟩, ⟨x1, r1⟩, ⟨x2, r2⟩, ⟨x3, r3⟩, y0, y1, y2, y3⟩ := F8.out.r0
              rw [HM.out]
              go_wp2_with fail
              rw [put4_eq]
              have hfin := F8.out.endSome HC.out.2.1 HC.out.2.2 (Nat.le_refl _)
              try simp only [show ((0 : Nat) : Int) = 0 from rfl] at hfin
              obtain ⟨e0, e1, e2, e3, hpost⟩ := hfin
              refine bodyPost_ret (v := .tuple #[.agg #[.int .i64 5, .int .i64 0, .slice (some ⟨g2, 0, none⟩) (M + 1) cap2, .int .i64 0], .bool true]) (by simp [results, Tryd.results35, go_sem] at e0 e1 e2 e3 ⊢; simp [go_sem, e0, e1, e2, e3]) rfl ?_
              have h1 := HRD.out
              rw [HQ1.out.2] at h1
              rw [← HP.out, HR.out, flds_end HMK.out h1, ← HTR.out]
              exact hpost
            | false =>
              rw [hq1] at CP2
              have HQ1 := Lib.hid hq1
              clear hq1
              go_wp2_with fail
              refine (CP2.out).mono ?_
              rintro e w8 ⟨rfl, hu8, hr8⟩
              have F8 := Lib.hid (F7.out.sub hu8 HC.out.1 (Nat.le_refl _) (show RdB w8 b s p2 l2 from by simpa using hr8) hp4 (by omega))
              clear hu8 hr8
              have CP3 : Hid (Calls Tryd.prog 34 #[.pointer (some ⟨b, 0, none⟩), .int .u8 44] w8 fun e w' => e = .returned (.bool (nextIs 44 (tailS s p2))) ∧ Upd b w8 w' ∧ RdB w' b s (if nextIs 44 (tailS s p2) then p2 + 1 else p2) l2) :=
                Lib.hid (rd_passes b s p2 l2 44 w8 HS.out hp4 F8.out.rd)
              cases hq2 : nextIs 44 (tailS s p2) with
              | true =>
                rw [hq2] at CP3
                have HQ2 := Lib.hid (HNT2.out hq2)
                clear hq2
                go_wp2_with fail
                refine (CP3.out).mono ?_
                rintro e w9 ⟨rfl, hu9, hr9⟩
                have F9 := Lib.hid (F8.out.sub hu9 HC.out.1 (Nat.le_refl _) (show RdB w9 b s (p2 + 1) l2 from by simpa using hr9) (by have := HQ2.out.1; omega) (by omega))
                clear hu9 hr9
                go_wp2_with fail
                have h1 := HRD.out
                rw [HQ2.out.2] at h1
                have h3 := HLN.out
                refine ⟨⟨f, p2 + 1, l2, 0, _, L2, Lib.hid F9.out, by omega, Lib.hid (by rw [HR.out, flds_next HMK.out h1, HTR.out]), by omega, by omega, by have := HQ2.out.1; omega⟩, ?_⟩
                have e1 := F9.out.rd.c2
                have e2 := HMS.out
                simp only [e1, e2, intOf, Int.toNat_natCast]
                exact hl2
              | false =>
                rw [hq2] at CP3
                have HQ2 := Lib.hid hq2
                clear hq2
                go_wp2_with fail
                refine (CP3.out).mono ?_
                rintro e w9 ⟨rfl, hu9, hr9⟩
                have F9 := Lib.hid (F8.out.sub hu9 HC.out.1 (Nat.le_refl _) (show RdB w9 b s p2 l2 from by simpa using hr9) hp4 (by omega))
                clear hu9 hr9
                obtain ⟨⟨x0, r0⟩, ⟨x1, r1⟩, ⟨x2, r2⟩, ⟨x3, r3⟩, y0, y1, y2, y3⟩ := F9.out.r0
                go_wp2_with fail
                rw [put4_eq]
                obtain ⟨e0, e1, e2, e3, hpost⟩ := F9.out.endNone HC.out.2.1 HC.out.2.2
                refine bodyPost_ret (v := .tuple #[.agg #[.int .i64 0, .int .i64 0, .slice none 0 0, .int .i64 0], .bool false]) (by simp [results, Tryd.results35, go_sem, e0, e1, e2, e3]) rfl ?_
                rw [← HP.out, HR.out, flds_stop HMK.out HRD.out HQ1.out HQ2.out]
                exact hpost
end Go.Proofs.YtopfpfpefljkkaaDoor

