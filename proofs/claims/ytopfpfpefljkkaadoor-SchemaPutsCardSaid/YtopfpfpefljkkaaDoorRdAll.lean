/- Package schema: the reader's read. -/
import Derived.Test.YtopfpfpefljkkaaDoorRdFields
import Derived.Deep.RegionWith
import Derived.Deep.RegionHeld3
namespace Go.Proofs.YtopfpfpefljkkaaDoor
open Go.RowKit
set_option linter.unusedVariables false
set_option linter.unusedSimpArgs false

/-- The state while a type is read: the box of the reader's address in block g, the result in block g + 1. -/
structure GSt (w0 : World) (b g : Nat) (s : ByteArray) (p l : Nat) (w : World) : Prop where
  upd : Upd b w0 w
  rd : RdB w b s p l
  box : w.cell? ⟨g, 0, none⟩ = some (.pointer (some ⟨b, 0, none⟩))
  res : ∃ cs, Blk w (g + 1) cs TT ∧ cs.size = 4
  hp : p ≤ s.size
  hl : l ≤ 64
  hg : g + 2 ≤ w.heap.size
  h0 : w0.heap.size = g
  hb : b < g
theorem GSt.sub {w0 w w' : World} {b g p l p' l' : Nat} {s : ByteArray} (h : GSt w0 b g s p l w) (hu : Upd b w w') (hr : RdB w' b s p' l') (hp : p' ≤ s.size) (hl : l' ≤ 64) : GSt w0 b g s p' l' w' := by
  obtain ⟨cs, h1, h2⟩ := h.res
  have hbg := h.hb
  have hg := h.hg
  refine ⟨h.upd.trans hu, hr, ?_, ⟨cs, hu.blk h1 (by omega), h2⟩, hp, hl, Nat.le_trans h.hg hu.size, h.h0, h.hb⟩
  rw [World.cell?_of_block (w := w) (hu.block g (by omega) (by simpa using by omega))]
  exact h.box
theorem GSt.drewN {w0 w : World} {b g p l : Nat} {s : ByteArray} (h : GSt w0 b g s p l w) (n : Nat) : GSt w0 b g s p l (w.drewN n) := h.sub ((Upd.refl _ _).drewN n) (h.rd.drewN n) h.hp h.hl
theorem GSt.less {w0 w : World} {b g p l : Nat} {s : ByteArray} (h : GSt w0 b g s p l w) (h1 : 1 ≤ l) : GSt w0 b g s p (l - 1) (w.setCell ⟨b, 2, none⟩ (.int .i64 ((l : Int) - 1))) := by
  refine h.sub ((Upd.refl _ _).set 2 _) ?_ h.hp (by have := h.hl; omega)
  have := h.rd.left (l - 1)
  rwa [show ((l - 1 : Nat) : Int) = (l : Int) - 1 by omega] at this
theorem GSt.next {w0 w : World} {b g p l : Nat} {s : ByteArray} (h : GSt w0 b g s p l w) (h1 : p < s.size) : GSt w0 b g s (p + 1) l (w.setCell ⟨b, 1, none⟩ (.int .i64 ((p : Int) + 1))) := by
  refine h.sub ((Upd.refl _ _).set 1 _) ?_ (by omega) h.hl
  have := h.rd.move (p + 1)
  rwa [show ((p + 1 : Nat) : Int) = (p : Int) + 1 by omega] at this
theorem GSt.r0 {w0 w : World} {b g p l : Nat} {s : ByteArray} (h : GSt w0 b g s p l w) : (∃ x, w.cell? ⟨g + 1, 0, none⟩ = some x) ∧ (∃ x, w.cell? ⟨g + 1, 1, none⟩ = some x) ∧ (∃ x, w.cell? ⟨g + 1, 2, none⟩ = some x) ∧ (∃ x, w.cell? ⟨g + 1, 3, none⟩ = some x) ∧
    w.frozen? ⟨g + 1, 0, none⟩ = false ∧ w.frozen? ⟨g + 1, 1, none⟩ = false ∧ w.frozen? ⟨g + 1, 2, none⟩ = false ∧ w.frozen? ⟨g + 1, 3, none⟩ = false := by
  obtain ⟨⟨l⟩, h1, h2⟩ := h.res
  match l, h2 with
  | [x, y, z, u], _ => exact ⟨⟨x, h1.cell 0⟩, ⟨y, h1.cell 1⟩, ⟨z, h1.cell 2⟩, ⟨u, h1.cell 3⟩, h1.free 0, h1.free 1, h1.free 2, h1.free 3⟩
theorem GSt.start {w : World} {b : Nat} {s : ByteArray} {p l : Nat} (hr : RdB w b s p l) (hp : p ≤ s.size) (hl : l ≤ 64) :
    ∀ W, (w.alloc (.cells #[.pointer (some ⟨b, 0, none⟩)] 37)).alloc (.cells #[.int .i64 0, .int .i64 0, .slice none 0 0, .int .i64 0] TT) = W → GSt w b w.heap.size s p l W := by
  rintro W rfl
  have hal := (Below.refl w.heap.size w).alloc (Nat.le_refl _) (.cells #[.pointer (some ⟨b, 0, none⟩)] 37)
  have hb1 := Blk.new w #[.pointer (some ⟨b, 0, none⟩)] 37
  have hr1 := hr.below hal
  have hs1 : (w.alloc (.cells #[.pointer (some ⟨b, 0, none⟩)] 37)).heap.size = w.heap.size + 1 := by simp
  generalize w.alloc (.cells #[.pointer (some ⟨b, 0, none⟩)] 37) = w1 at *
  have hal2 := (Below.refl w1.heap.size w1).alloc (Nat.le_refl _) (.cells #[.int .i64 0, .int .i64 0, .slice none 0 0, .int .i64 0] TT)
  have hb2 := Blk.new w1 #[.int .i64 0, .int .i64 0, .slice none 0 0, .int .i64 0] TT
  rw [hs1] at hb2
  refine ⟨(Upd.of hal).trans (Upd.of hal2), hr1.below hal2, (Below.blk hal2 hb1 (by omega)).cell 0, ⟨_, hb2, rfl⟩, hp, hl, by simp; omega, rfl, hr.lt⟩

/-- A store into another new block. -/
theorem GSt.far {w0 w : World} {b g p l : Nat} {s : ByteArray} (h : GSt w0 b g s p l w) {k : Nat} (hk : g + 2 ≤ k) (i : Nat) (v : Value) : GSt w0 b g s p l (w.setCell ⟨k, i, none⟩ v) := by
  obtain ⟨cs, h1, h2⟩ := h.res
  have hbg := h.hb
  have e0 := h.h0
  refine ⟨h.upd.setNew (a := ⟨k, i, none⟩) (show w0.heap.size ≤ k by omega) v, Blk.setOther h.rd (by simp; omega) v, ?_, ⟨cs, h1.setOther (by simp; omega) v, h2⟩, h.hp, h.hl, by simpa [World.setCell] using h.hg, e0, h.hb⟩
  rw [World.cell?_of_block (w := w) (Below.heap_setCell _ _ _ _ (by simp; omega))]
  exact h.box
theorem GSt.alloc {w0 w : World} {b g p l : Nat} {s : ByteArray} (h : GSt w0 b g s p l w) (cs : Array Value) (t : TypeId) : ∀ W, w.alloc (.cells cs t) = W → GSt w0 b g s p l W ∧ Blk W w.heap.size cs t ∧ Below w.heap.size w W := by
  rintro W rfl
  have hal := (Below.refl w.heap.size w).alloc (Nat.le_refl _) (.cells cs t)
  exact ⟨h.sub (Upd.of hal) (h.rd.below hal) h.hp h.hl, Blk.new w _ _, hal⟩
/-- The result is laid, and told. -/
theorem GSt.fin {w0 w : World} {b g p l : Nat} {s : ByteArray} (h : GSt w0 b g s p l w) (a : TL) (o : Option Addr) (n c : Nat) (ok : Bool) {R : Option (Rose TL × List UInt8 × Nat)}
    (h1 : ok = true → ∃ sub, R = some (.node a sub, tailS s p, l) ∧ TL.wf a ∧ tshape.Subs w (fun k => g + 2 ≤ k) (.slice o n c) sub) (h2 : ok = false → R = none) {A B C D : Value} (hA : A = .int .i64 a.kind) (hBv : B = .int .i64 a.size) (hC : C = .slice o n c) (hD : D = .int .i64 a.tail) :
    (put4 w (g + 1) A B C D).cell? ⟨g + 1, 0, none⟩ = some A ∧ (put4 w (g + 1) A B C D).cell? ⟨g + 1, 1, none⟩ = some B ∧ (put4 w (g + 1) A B C D).cell? ⟨g + 1, 2, none⟩ = some C ∧ (put4 w (g + 1) A B C D).cell? ⟨g + 1, 3, none⟩ = some D ∧
      ResPost R b s w0 (.returned (.tuple #[.agg #[A, B, C, D], .bool ok])) (put4 w (g + 1) A B C D) := by
  subst hA hBv hC hD
  obtain ⟨cs, hg1, hg2⟩ := h.res
  have hB := put4_blk' (a := .int .i64 a.kind) (b := .int .i64 a.size) (c := .slice o n c) (d := .int .i64 a.tail) hg1 hg2
  have e0 := h.h0
  have hbg := h.hb
  refine ⟨hB.cell 0, hB.cell 1, hB.cell 2, hB.cell 3, a, o, n, c, ok, p, l, rfl, put4_upd h.upd (by omega), put4_other h.rd (by omega), h.hp, h.hl, fun e => ?_, h2⟩
  obtain ⟨sub, q1, q2, q3⟩ := h1 e
  exact ⟨sub, q1, q2, (put4_subs q3 (fun k hk => by omega)).keep (Nat.le_refl _) (fun k _ hk => by omega) fun _ _ _ => rfl⟩

theorem wf_small {k : Int} (h0 : 0 ≤ k) (h1 : k ≤ 65536) : (Lit.int .i64 k).wf = true := by
  have e1 : IntKind.i64.min = -9223372036854775808 := rfl
  have e2 : IntKind.i64.max = 9223372036854775807 := rfl
  simp [Lit.wf, e1, e2]; omega
theorem tl_wf {k z t : Int} (h : (0 ≤ k ∧ k ≤ 65536) ∧ (0 ≤ z ∧ z ≤ 65536) ∧ (0 ≤ t ∧ t ≤ 65536)) : TL.wf ⟨k, z, t⟩ := ⟨wf_small h.1.1 h.1.2, wf_small h.2.1.1 h.2.1.2, wf_small h.2.2.1 h.2.2.2⟩
theorem subs_nil (S : Shape TL) (w : World) (Q : Nat → Prop) : S.Subs w Q (.slice none 0 0) [] := ⟨none, 0, rfl, Nat.le_refl _, Nat.zero_le _, fun h => absurd h (by simp)⟩

theorem subs_one {w : World} {Q : Nat → Prop} {k : Nat} {a : TL} {o : Option Addr} {n c : Nat} {sub : List (Rose TL)} (hB : Blk w k #[.int .i64 a.kind, .int .i64 a.size, .slice o n c, .int .i64 a.tail] TT) (hwf : TL.wf a)
    (hs : tshape.Subs w Q (.slice o n c) sub) (hq : Q k) : tshape.Subs w Q (.slice (some ⟨k, 0, none⟩) 1 1) [.node a sub] := by
  refine ⟨some ⟨k, 0, none⟩, 1, rfl, Nat.le_refl _, by unfold maxLen; decide, fun _ => ⟨k, 0, rfl, hB.lt, hq, ?_⟩⟩
  simp only [Shape.RowAt, Shape.NodeAt, and_true]
  refine ⟨hwf, .slice o n c, fun j hj => ?_, hs⟩
  have hj4 : j < 4 := hj
  rw [hB.cell]
  have : j = 0 ∨ j = 1 ∨ j = 2 ∨ j = 3 := by omega
  rcases this with rfl | rfl | rfl | rfl <;> rfl
/-! ### One step of reading, without the program -/
theorem rd_step (D : Nat) (s : ByteArray) (p l : Nat) (hp : p < s.size) (hl : 1 ≤ l) (b : UInt8) (hb : s[p] = b) : rd (D + 1) (tailS s p) l =
    if b = 117 then (num 64 (tailS s (p + 1))).bind fun q => if q.1 % 8 = 0 then some (.node ⟨1, (q.1 / 8 : Nat), 0⟩ [], q.2, l - 1) else none
    else if b = 98 then (num 65536 (tailS s (p + 1))).bind fun q => some (.node ⟨2, q.1, 0⟩ [], q.2, l - 1)
    else if b = 115 then (num 65536 (tailS s (p + 1))).bind fun q => some (.node ⟨3, q.1, 0⟩ [], q.2, l - 1)
    else if b = 91 then (rd D (tailS s (p + 1)) (l - 1)).bind fun y => match y.2.1 with
        | 58 :: r2 => (num 1024 r2).bind fun q => match q.2 with
          | 93 :: r4 => some (.node ⟨4, q.1, 0⟩ [y.1], r4, y.2.2)
          | _ => none
        | _ => none
    else if b = 123 then (if nextIs 125 (tailS s (p + 1)) then some (.node ⟨5, 0, 0⟩ [], tailS s (p + 2), l - 1) else flds (rd D) (l + 1) (tailS s (p + 1)) (l - 1) [] 0)
    else none := by
  rw [tailS_lt hp, hb]
  simp only [rd]
  rw [if_neg (by omega)]
  split
  · rfl
  split
  · rfl
  split
  · rfl
  split
  · rfl
  split
  · cases hq : nextIs 125 (tailS s (p + 1)) with
    | true =>
      obtain ⟨h1, h2⟩ := nextIs_true (by omega) hq
      rw [h2]; rfl
    | false =>
      split
      · rename_i r e; exact (nextIs_false hq e).elim
      · simp
  · rfl
theorem rd_out (D : Nat) (s : ByteArray) (p l : Nat) (hp : p ≤ s.size) (h : l = 0 ∨ p = s.size) : rd (D + 1) (tailS s p) l = none := by
  simp only [rd]
  split
  · rfl
  · rcases h with h | h
    · omega
    · rw [tailS_end (by omega)]

set_option maxRecDepth 100000 in
set_option maxHeartbeats 4000000 in
theorem rd_read (b : Nat) (s : ByteArray) (hs : s.size ≤ maxLen) : ∀ (D dep p l : Nat) (w : World), dep + D = 9 → p ≤ s.size → l ≤ 64 → RdB w b s p l →
    Calls Tryd.prog 23 #[.pointer (some ⟨b, 0, none⟩), .int .i64 (dep : Int)] w (ResPost (rd D (tailS s p) l) b s w) := by
  intro D
  induction D with
  | zero =>
    intro dep p l w hd hp hl hb
    have d0 : decide (8 < (dep : Int)) = true := by simp; omega
    have HA := Lib.hid (GSt.start hb hp hl)
    have HR : Hid (rd 0 (tailS s p) l = none) := Lib.hid rfl
    obtain ⟨g, hg⟩ : ∃ g, w.heap.size = g := ⟨_, rfl⟩
    rw [hg] at HA
    have HD := Lib.hid hd
    obtain ⟨R, hR⟩ : ∃ R, rd 0 (tailS s p) l = R := ⟨_, rfl⟩
    rw [hR] at HR ⊢
    obtain ⟨POST, hP⟩ : ∃ POST, ResPost R b s w = POST := ⟨_, rfl⟩
    have HP := Lib.hid hP
    rw [hP]
    clear hb hd hR hP
    go_enter Tryd.func23, Tryd.ntmps23
    go_upto_region 1 with fail
    generalize (w.alloc (.cells #[.pointer (some ⟨b, 0, none⟩)] 37)).alloc (.cells #[.int .i64 0, .int .i64 0, .slice none 0 0, .int .i64 0] TT) = w1 at *
    have G := Lib.hid (HA.out _ rfl)
    obtain ⟨⟨x0, r0⟩, ⟨x1, r1⟩, ⟨x2, r2⟩, ⟨x3, r3⟩, y0, y1, y2, y3⟩ := G.out.r0
    go_quiet (fail)
    go_wp2_with fail
    rw [put4_eq]
    obtain ⟨e0, e1, e2, e3, hpost⟩ := (G.out.drewN nq).fin (A := .int .i64 0) (B := .int .i64 0) (C := .slice none 0 0) (D := .int .i64 0) ⟨0, 0, 0⟩ none 0 0 false (fun h => by cases h) (fun _ => HR.out) rfl rfl rfl rfl
    refine bodyPost_ret (v := .tuple #[.agg #[.int .i64 0, .int .i64 0, .slice none 0 0, .int .i64 0], .bool false]) (by simp [results, Tryd.results23, go_sem, e0, e1, e2, e3]) rfl ?_
    rw [← HP.out]
    exact hpost
  | succ D ih =>
    intro dep p l w hd hp hl hb
    have d0 : decide (8 < (dep : Int)) = false := by simp; omega
    have HA := Lib.hid (GSt.start hb hp hl)
    obtain ⟨g, hg⟩ : ∃ g, w.heap.size = g := ⟨_, rfl⟩
    rw [hg] at HA
    have HD := Lib.hid hd
    have hdep : dep ≤ 8 := by omega
    have IH := Lib.hid ih
    have HS := Lib.hid hs
    obtain ⟨R, hR⟩ : ∃ R, rd (D + 1) (tailS s p) l = R := ⟨_, rfl⟩
    have HR := Lib.hid hR
    have HOUT := Lib.hid (rd_out D s p l hp)
    rw [hR]
    obtain ⟨POST, hP⟩ : ∃ POST, ResPost R b s w = POST := ⟨_, rfl⟩
    have HP := Lib.hid hP
    rw [hP]
    have hsm : s.size ≤ 9223372036854775807 := by unfold maxLen at hs; omega
    clear hb hd hR hP ih hs
    by_cases hout : l = 0 ∨ p = s.size
    · have HN : Hid (R = none) := Lib.hid (by rw [← HR.out]; exact HOUT.out hout)
      have e1 : ((l : Int) == 0) = decide (l = 0) := by rw [Bool.eq_iff_iff]; simp
      have e2 : ((p : Int) == s.size) = decide (p = s.size) := by rw [Bool.eq_iff_iff]; simp; omega
      have hcase : (((l : Int) == 0) = true) ∨ (((l : Int) == 0) = false ∧ ((p : Int) == s.size) = true) := by
        rcases hout with h | h
        · exact .inl (by rw [e1]; simp [h])
        · by_cases h0 : l = 0
          · exact .inl (by rw [e1]; simp [h0])
          · exact .inr ⟨by rw [e1]; simp [h0], by rw [e2]; simp [h]⟩
      clear hout HOUT e1 e2
      go_enter Tryd.func23, Tryd.ntmps23
      go_upto_region 1 with fail
      generalize (w.alloc (.cells #[.pointer (some ⟨b, 0, none⟩)] 37)).alloc (.cells #[.int .i64 0, .int .i64 0, .slice none 0 0, .int .i64 0] TT) = w1 at *
      have G := Lib.hid (HA.out _ rfl)
      obtain ⟨⟨x0, r0⟩, ⟨x1, r1⟩, ⟨x2, r2⟩, ⟨x3, r3⟩, y0, y1, y2, y3⟩ := G.out.r0
      have b0 := G.out.box
      have c0 := G.out.rd.c0
      have c1 := G.out.rd.c1
      have c2 := G.out.rd.c2
      rcases hcase with q1 | ⟨q1, q2⟩
      all_goals
        go_quiet (fail)
        go_wp2_with fail
        rw [put4_eq]
        obtain ⟨e0, e1, e2, e3, hpost⟩ := (G.out.drewN nq).fin (A := .int .i64 0) (B := .int .i64 0) (C := .slice none 0 0) (D := .int .i64 0) ⟨0, 0, 0⟩ none 0 0 false (fun h => by cases h) (fun _ => HN.out) rfl rfl rfl rfl
        refine bodyPost_ret (v := .tuple #[.agg #[.int .i64 0, .int .i64 0, .slice none 0 0, .int .i64 0], .bool false]) (by simp [results, Tryd.results23, go_sem, e0, e1, e2, e3]) rfl ?_
        rw [← HP.out]
        exact hpost
    · have hl1 : 1 ≤ l := by omega
      have hp1 : p < s.size := by omega
      have q1 : ((l : Int) == 0) = false := by simp; omega
      have q2 : ((p : Int) == s.size) = false := by simp; omega
      have HSTEP := Lib.hid (rd_step D s p l hp1 hl1 s[p] rfl)
      clear hout HOUT
      go_enter Tryd.func23, Tryd.ntmps23
      go_upto_region 1 with fail
      generalize (w.alloc (.cells #[.pointer (some ⟨b, 0, none⟩)] 37)).alloc (.cells #[.int .i64 0, .int .i64 0, .slice none 0 0, .int .i64 0] TT) = w1 at *
      have G := Lib.hid (HA.out _ rfl)
      have b0 := G.out.box
      have c0 := G.out.rd.c0
      have c1 := G.out.rd.c1
      have c2 := G.out.rd.c2
      have f2 := Blk.free G.out.rd 2
      clear HA
      go_quiet (fail)
      go_upto_region 4 with fail
      refine wp_gen (fun W => GSt w b g s p (l - 1) W) ((G.out.drewN _).less hl1) ?_
      intro w2 hG2
      have G2 := Lib.hid hG2
      clear G b0 c0 c1 c2 f2 hG2
      have b0 := G2.out.box
      have c0 := G2.out.rd.c0
      have c1 := G2.out.rd.c1
      have f1 := Blk.free G2.out.rd 1
      go_quiet (fail)
      go_upto_region 7 with fail
      refine wp_gen (fun W => GSt w b g s (p + 1) (l - 1) W) ((G2.out.drewN _).next hp1) ?_
      intro w3 hG3
      have G3 := Lib.hid hG3
      obtain ⟨q, hq⟩ : ∃ q, p + 1 = q := ⟨_, rfl⟩
      obtain ⟨m, hm⟩ : ∃ m, l - 1 = m := ⟨_, rfl⟩
      have HQ := Lib.hid hq
      have HM := Lib.hid hm
      have hmm : m ≤ 63 := by omega
      have hqs : q ≤ s.size := by omega
      rw [hq, hm] at G3
      have HRS := Lib.hid (HR.out.symm.trans HSTEP.out)
      rw [hq, hm] at HRS
      clear G2 b0 c0 c1 f1 hG3 hq hm HSTEP HR q1 q2
      have b0 := G3.out.box
      obtain ⟨⟨x0, r0⟩, ⟨x1, r1⟩, ⟨x2, r2⟩, ⟨x3, r3⟩, y0, y1, y2, y3⟩ := G3.out.r0
      have hk : Hid (∀ c : UInt8, s[p] ≠ c → ((s[p].toNat : Int) == (c.toNat : Int)) = false) := Lib.hid fun c h => by
        rw [beq_eq_false_iff_ne]; intro h'; exact h (UInt8.toNat_inj.1 (by omega))
      by_cases h117 : s[p] = 117
      · have d1 : ((s[p].toNat : Int) == 117) = true := by rw [h117]; rfl
        have HU := Lib.hid HRS.out
        rw [if_pos h117] at HU
        have CS : Hid (Calls Tryd.prog 32 #[.int .i64 1, .int .i64 64, .pointer (some ⟨g, 0, none⟩)] w3 (SizedPost 1 b s q m 64 w3)) := Lib.hid (rd_sized 1 b g s q m 64 w3 HS.out hqs (by decide) G3.out.rd G3.out.box)
        clear h117 HRS hk
        go_wp2_with fail
        refine (CS.out).mono ?_
        rintro e w4 ⟨n, ok, p4, rfl, hu4, hr4, hp4, hn4, hok, hno⟩
        have G4 := Lib.hid (G3.out.sub hu4 hr4 hp4 (by omega))
        have HOK := Lib.hid (And.intro hok hno)
        have HA4 := Lib.hid (G4.out.alloc #[.int .i64 1, .int .i64 (n : Int), .slice none 0 0, .int .i64 0] TT)
        clear hu4 hr4 hok hno CS G3 b0 x0 r0 x1 r1 x2 r2 x3 r3 y0 y1 y2 y3
        go_upto_region 10 with fail
        generalize w4.alloc (.cells #[.int .i64 1, .int .i64 (n : Int), .slice none 0 0, .int .i64 0] TT) = w5 at *
        obtain ⟨hG5, hB5, _⟩ := HA4.out _ rfl
        have G5 := Lib.hid hG5
        have HB5 := Lib.hid hB5
        obtain ⟨⟨x0, r0⟩, ⟨x1, r1⟩, ⟨x2, r2⟩, ⟨x3, r3⟩, y0, y1, y2, y3⟩ := G5.out.r0
        have k0 := hB5.cell 0
        have k1 := hB5.cell 1
        have k2 := hB5.cell 2
        have k3 := hB5.cell 3
        have kf := hB5.free 1
        simp only [List.getElem?_toArray, List.getElem?_cons_zero, List.getElem?_cons_succ] at k0 k1 k2 k3
        have hlt4 : g + 2 ≤ w4.heap.size := G4.out.hg
        clear hG5 hB5 HA4
        cases ok with
        | true =>
          go_upto_region 12 with fail
          refine wp_gen (fun W => GSt w b g s p4 m W ∧ Blk W w4.heap.size #[.int .i64 1, .int .i64 ((n / 8 : Nat) : Int), .slice none 0 0, .int .i64 0] TT) ⟨G5.out.far hlt4 _ _, by simpa using HB5.out.set 1 (.int .i64 ((n / 8 : Nat) : Int))⟩ ?_
          rintro w6 ⟨hG6, hB6⟩
          have G6 := Lib.hid hG6
          clear k0 k1 k2 k3 kf x0 r0 x1 r1 x2 r2 x3 r3 y0 y1 y2 y3
          obtain ⟨⟨x0, r0⟩, ⟨x1, r1⟩, ⟨x2, r2⟩, ⟨x3, r3⟩, y0, y1, y2, y3⟩ := G6.out.r0
          have k0 := hB6.cell 0
          have k1 := hB6.cell 1
          have k2 := hB6.cell 2
          have k3 := hB6.cell 3
          simp only [List.getElem?_toArray, List.getElem?_cons_zero, List.getElem?_cons_succ] at k0 k1 k2 k3
          obtain ⟨nd, hnd⟩ : ∃ nd, n / 8 = nd := ⟨_, rfl⟩
          rw [hnd] at k1
          have HND := Lib.hid hnd
          have hnd8 : nd ≤ 64 := by omega
          clear hG6 hB6 hnd
          go_wp2_with fail
          have hres : ((n : Int) % 8 == 0) = true → ∃ sub, R = some (.node ⟨1, (nd : Int), 0⟩ sub, tailS s p4, m) ∧ TL.wf ⟨1, (nd : Int), 0⟩ ∧ tshape.Subs w6 (fun k => g + 2 ≤ k) (.slice none 0 0) sub := fun h => by
            have h1 := HOK.out.1 (by trivial)
            refine ⟨[], ?_, tl_wf (by omega), subs_nil _ _ _⟩
            rw [HU.out, h1, Option.bind_some, if_pos (by simp at h; omega), HND.out]
          have hres2 : ((n : Int) % 8 == 0) = false → R = none := fun h => by
            have h1 := HOK.out.1 (by trivial)
            rw [HU.out, h1, Option.bind_some, if_neg (by simp at h; omega)]
          rw [put4_eq]
          obtain ⟨e0, e1, e2, e3, hpost⟩ := G6.out.fin (A := .int .i64 1) (B := .int .i64 (nd : Int)) (C := .slice none 0 0) (D := .int .i64 0) ⟨1, (nd : Int), 0⟩ none 0 0 ((n : Int) % 8 == 0) hres hres2 rfl rfl rfl rfl
          refine bodyPost_ret (v := .tuple #[.agg #[.int .i64 1, .int .i64 (nd : Int), .slice none 0 0, .int .i64 0], .bool ((n : Int) % 8 == 0)]) (by simp [results, Tryd.results23, go_sem, e0, e1, e2, e3]) rfl ?_
          rw [← HP.out]
          exact hpost
        | false =>
          go_upto_region 12 with fail
          refine wp_gen (fun W => GSt w b g s p4 m W ∧ Blk W w4.heap.size #[.int .i64 1, .int .i64 ((n / 8 : Nat) : Int), .slice none 0 0, .int .i64 0] TT) ⟨G5.out.far hlt4 _ _, by simpa using HB5.out.set 1 (.int .i64 ((n / 8 : Nat) : Int))⟩ ?_
          rintro w6 ⟨hG6, hB6⟩
          have G6 := Lib.hid hG6
          clear k0 k1 k2 k3 kf x0 r0 x1 r1 x2 r2 x3 r3 y0 y1 y2 y3
          obtain ⟨⟨x0, r0⟩, ⟨x1, r1⟩, ⟨x2, r2⟩, ⟨x3, r3⟩, y0, y1, y2, y3⟩ := G6.out.r0
          have k0 := hB6.cell 0
          have k1 := hB6.cell 1
          have k2 := hB6.cell 2
          have k3 := hB6.cell 3
          simp only [List.getElem?_toArray, List.getElem?_cons_zero, List.getElem?_cons_succ] at k0 k1 k2 k3
          obtain ⟨nd, hnd⟩ : ∃ nd, n / 8 = nd := ⟨_, rfl⟩
          rw [hnd] at k1
          have HND := Lib.hid hnd
          have hnd8 : nd ≤ 64 := by omega
          clear hG6 hB6 hnd
          go_wp2_with fail
          have hres2 : R = none := by rw [HU.out, HOK.out.2 (by trivial)]; rfl
          rw [put4_eq]
          obtain ⟨e0, e1, e2, e3, hpost⟩ := G6.out.fin (A := .int .i64 1) (B := .int .i64 (nd : Int)) (C := .slice none 0 0) (D := .int .i64 0) ⟨1, (nd : Int), 0⟩ none 0 0 false (fun h => by cases h) (fun _ => hres2) rfl rfl rfl rfl
          refine bodyPost_ret (v := .tuple #[.agg #[.int .i64 1, .int .i64 (nd : Int), .slice none 0 0, .int .i64 0], .bool false]) (by simp [results, Tryd.results23, go_sem, e0, e1, e2, e3]) rfl ?_
          rw [← HP.out]
          exact hpost
      have d117 : ((s[p].toNat : Int) == 117) = false := hk.out 117 h117
      have HRS98 := Lib.hid HRS.out
      rw [if_neg h117] at HRS98
      clear h117 HRS
      have HRS := HRS98
      clear HRS98
      by_cases h98 : s[p] = 98
      · have d1 : ((s[p].toNat : Int) == 98) = true := by rw [h98]; rfl
        have HU := Lib.hid HRS.out
        rw [if_pos h98] at HU
        have CS : Hid (Calls Tryd.prog 32 #[.int .i64 2, .int .i64 65536, .pointer (some ⟨g, 0, none⟩)] w3 (SizedPost 2 b s q m 65536 w3)) := Lib.hid (rd_sized 2 b g s q m 65536 w3 HS.out hqs (by decide) G3.out.rd G3.out.box)
        clear h98 HRS hk
        go_wp2_with fail
        refine (CS.out).mono ?_
        rintro e w4 ⟨n, ok, p4, rfl, hu4, hr4, hp4, hn4, hok, hno⟩
        have G4 := Lib.hid (G3.out.sub hu4 hr4 hp4 (by omega))
        have HOK := Lib.hid (And.intro hok hno)
        clear hu4 hr4 hok hno CS G3 b0 x0 r0 x1 r1 x2 r2 x3 r3 y0 y1 y2 y3
        obtain ⟨⟨x0, r0⟩, ⟨x1, r1⟩, ⟨x2, r2⟩, ⟨x3, r3⟩, y0, y1, y2, y3⟩ := G4.out.r0
        go_wp2_with fail
        have hres : ok = true → ∃ sub, R = some (.node ⟨2, (n : Int), 0⟩ sub, tailS s p4, m) ∧ TL.wf ⟨2, (n : Int), 0⟩ ∧ tshape.Subs w4 (fun k => g + 2 ≤ k) (.slice none 0 0) sub := fun h => by
          refine ⟨[], ?_, tl_wf (by omega), subs_nil _ _ _⟩
          rw [HU.out, HOK.out.1 h]; rfl
        have hres2 : ok = false → R = none := fun h => by rw [HU.out, HOK.out.2 h]; rfl
        rw [put4_eq]
        obtain ⟨e0, e1, e2, e3, hpost⟩ := G4.out.fin (A := .int .i64 2) (B := .int .i64 (n : Int)) (C := .slice none 0 0) (D := .int .i64 0) ⟨2, (n : Int), 0⟩ none 0 0 ok hres hres2 rfl rfl rfl rfl
        refine bodyPost_ret (v := .tuple #[.agg #[.int .i64 2, .int .i64 (n : Int), .slice none 0 0, .int .i64 0], .bool ok]) (by simp [results, Tryd.results23, go_sem, e0, e1, e2, e3]) rfl ?_
        rw [← HP.out]
        exact hpost
      have d98 : ((s[p].toNat : Int) == 98) = false := hk.out 98 h98
      have HRS115 := Lib.hid HRS.out
      rw [if_neg h98] at HRS115
      clear h98 HRS
      have HRS := HRS115
      clear HRS115
      by_cases h115 : s[p] = 115
      · have d1 : ((s[p].toNat : Int) == 115) = true := by rw [h115]; rfl
        have HU := Lib.hid HRS.out
        rw [if_pos h115] at HU
        have CS : Hid (Calls Tryd.prog 32 #[.int .i64 3, .int .i64 65536, .pointer (some ⟨g, 0, none⟩)] w3 (SizedPost 3 b s q m 65536 w3)) := Lib.hid (rd_sized 3 b g s q m 65536 w3 HS.out hqs (by decide) G3.out.rd G3.out.box)
        clear h115 HRS hk
        go_wp2_with fail
        refine (CS.out).mono ?_
        rintro e w4 ⟨n, ok, p4, rfl, hu4, hr4, hp4, hn4, hok, hno⟩
        have G4 := Lib.hid (G3.out.sub hu4 hr4 hp4 (by omega))
        have HOK := Lib.hid (And.intro hok hno)
        clear hu4 hr4 hok hno CS G3 b0 x0 r0 x1 r1 x2 r2 x3 r3 y0 y1 y2 y3
        obtain ⟨⟨x0, r0⟩, ⟨x1, r1⟩, ⟨x2, r2⟩, ⟨x3, r3⟩, y0, y1, y2, y3⟩ := G4.out.r0
        go_wp2_with fail
        have hres : ok = true → ∃ sub, R = some (.node ⟨3, (n : Int), 0⟩ sub, tailS s p4, m) ∧ TL.wf ⟨3, (n : Int), 0⟩ ∧ tshape.Subs w4 (fun k => g + 2 ≤ k) (.slice none 0 0) sub := fun h => by
          refine ⟨[], ?_, tl_wf (by omega), subs_nil _ _ _⟩
          rw [HU.out, HOK.out.1 h]; rfl
        have hres2 : ok = false → R = none := fun h => by rw [HU.out, HOK.out.2 h]; rfl
        rw [put4_eq]
        obtain ⟨e0, e1, e2, e3, hpost⟩ := G4.out.fin (A := .int .i64 3) (B := .int .i64 (n : Int)) (C := .slice none 0 0) (D := .int .i64 0) ⟨3, (n : Int), 0⟩ none 0 0 ok hres hres2 rfl rfl rfl rfl
        refine bodyPost_ret (v := .tuple #[.agg #[.int .i64 3, .int .i64 (n : Int), .slice none 0 0, .int .i64 0], .bool ok]) (by simp [results, Tryd.results23, go_sem, e0, e1, e2, e3]) rfl ?_
        rw [← HP.out]
        exact hpost
      have d115 : ((s[p].toNat : Int) == 115) = false := hk.out 115 h115
      have HRS91 := Lib.hid HRS.out
      rw [if_neg h115] at HRS91
      clear h115 HRS
      have HRS := HRS91
      clear HRS91
      by_cases h91 : s[p] = 91
      · have d1 : ((s[p].toNat : Int) == 91) = true := by rw [h91]; rfl
        have HU := Lib.hid HRS.out
        rw [if_pos h91] at HU
        have CR : Hid (Calls Tryd.prog 23 #[.pointer (some ⟨b, 0, none⟩), .int .i64 ((dep : Int) + 1)] w3 (ResPost (rd D (tailS s q) m) b s w3)) := Lib.hid (IH.out (dep + 1) q m w3 (by have := HD.out; omega) hqs (by omega) G3.out.rd)
        clear h91 HRS hk
        have HG3 := Lib.hid G3.out.hg
        go_wp2_with fail
        refine (CR.out).mono ?_
        rintro e w4 ⟨a, o, n, c, ok, p4, l4, rfl, hu4, hr4, hp4, hl4, hok, hno⟩
        have G4 := Lib.hid (G3.out.sub hu4 hr4 hp4 hl4)
        have HOK := Lib.hid (And.intro hok hno)
        have HA4 := Lib.hid (G4.out.alloc #[.int .i64 a.kind, .int .i64 a.size, .slice o n c, .int .i64 a.tail] TT)
        clear hu4 hr4 hok hno CR G3 b0 x0 r0 x1 r1 x2 r2 x3 r3 y0 y1 y2 y3
        go_upto_region 19 with fail
        generalize w4.alloc (.cells #[.int .i64 a.kind, .int .i64 a.size, .slice o n c, .int .i64 a.tail] TT) = w5 at *
        obtain ⟨hG5, hB5, hbl5⟩ := HA4.out _ rfl
        have G5 := Lib.hid hG5
        have HB5 := Lib.hid hB5
        have b0 := G5.out.box
        have hlt4 : g + 2 ≤ w4.heap.size := G4.out.hg
        cases ok with
        | false =>
          clear hG5 hB5 HA4 hbl5
          obtain ⟨⟨x0, r0⟩, ⟨x1, r1⟩, ⟨x2, r2⟩, ⟨x3, r3⟩, y0, y1, y2, y3⟩ := G5.out.r0
          have hres2 : R = none := by rw [HU.out, HOK.out.2 (by trivial)]; rfl
          have HN := Lib.hid hres2
          clear hres2
          go_wp2_with fail
          rw [put4_eq]
          obtain ⟨e0, e1, e2, e3, hpost⟩ := G5.out.fin (A := .int .i64 0) (B := .int .i64 0) (C := .slice none 0 0) (D := .int .i64 0) ⟨0, 0, 0⟩ none 0 0 false (fun h => by cases h) (fun _ => HN.out) rfl rfl rfl rfl
          refine bodyPost_ret (v := .tuple #[.agg #[.int .i64 0, .int .i64 0, .slice none 0 0, .int .i64 0], .bool false]) (by simp [results, Tryd.results23, go_sem, e0, e1, e2, e3]) rfl ?_
          rw [← HP.out]
          exact hpost
        | true =>
          have HSUB : Hid (∃ sub, rd D (tailS s q) m = some (.node a sub, tailS s p4, l4) ∧ TL.wf a ∧ tshape.Subs w5 (fun k => g + 2 ≤ k ∧ k < w4.heap.size) (.slice o n c) sub) := Lib.hid (by
            obtain ⟨sub, h1, h2, h3⟩ := HOK.out.1 (by trivial)
            exact ⟨sub, h1, h2, h3.keep hbl5.size (fun k hk hq => ⟨Nat.le_trans HG3.out hq, hk⟩) fun k hk hq => hbl5.block k hk⟩)
          clear hG5 hB5 HA4 hbl5 HOK
          obtain ⟨sub, HRD, hwfa, hsub5⟩ := HSUB.out
          have HRD := Lib.hid HRD
          have HWF := Lib.hid hwfa
          have HS5 := Lib.hid hsub5
          clear HSUB hwfa hsub5
          have CP : Hid (Calls Tryd.prog 34 #[.pointer (some ⟨b, 0, none⟩), .int .u8 58] w5 fun e w' => e = .returned (.bool (nextIs 58 (tailS s p4))) ∧ Upd b w5 w' ∧ RdB w' b s (if nextIs 58 (tailS s p4) then p4 + 1 else p4) l4) :=
            Lib.hid (rd_passes b s p4 l4 58 w5 HS.out hp4 G5.out.rd)
          have HNT := Lib.hid (fun h => nextIs_true (c := 58) (s := s) (p := p4) hp4 h)
          cases hq1 : nextIs 58 (tailS s p4) with
          | false =>
            rw [hq1] at CP
            have HQ1 := Lib.hid hq1
            clear hq1
            have hres2 : R = none := by
              rw [HU.out, HRD.out]
              simp only [Option.bind_some]
              split
              · rename_i r2 e2; exact (nextIs_false HQ1.out e2).elim
              · rfl
            have HN := Lib.hid hres2
            clear hres2
            go_wp2_with fail
            refine (CP.out).mono ?_
            rintro e w6 ⟨rfl, hu6, hr6⟩
            have G6 := Lib.hid (G5.out.sub hu6 (show RdB w6 b s p4 l4 from by simpa using hr6) hp4 hl4)
            clear hu6 hr6 CP b0
            obtain ⟨⟨x0, r0⟩, ⟨x1, r1⟩, ⟨x2, r2⟩, ⟨x3, r3⟩, y0, y1, y2, y3⟩ := G6.out.r0
            go_wp2_with fail
            rw [put4_eq]
            obtain ⟨e0, e1, e2, e3, hpost⟩ := G6.out.fin (A := .int .i64 0) (B := .int .i64 0) (C := .slice none 0 0) (D := .int .i64 0) ⟨0, 0, 0⟩ none 0 0 false (fun h => by cases h) (fun _ => HN.out) rfl rfl rfl rfl
            refine bodyPost_ret (v := .tuple #[.agg #[.int .i64 0, .int .i64 0, .slice none 0 0, .int .i64 0], .bool false]) (by simp [results, Tryd.results23, go_sem, e0, e1, e2, e3]) rfl ?_
            rw [← HP.out]
            exact hpost
          | true =>
            rw [hq1] at CP
            have HQ1 := Lib.hid (HNT.out hq1)
            clear hq1 HNT
            go_wp2_with fail
            refine (CP.out).mono ?_
            rintro e w6 ⟨rfl, hu6, hr6⟩
            have hp6 : p4 + 1 ≤ s.size := by have := HQ1.out.1; omega
            have G6 := Lib.hid (G5.out.sub hu6 (show RdB w6 b s (p4 + 1) l4 from by simpa using hr6) hp6 hl4)
            have HB6 := Lib.hid (hu6.blk HB5.out (by have := G5.out.hb; omega))
            have HS6 := Lib.hid (Shape.Subs.keep HS5.out hu6.size (fun _ _ h => h) fun k hk hq => hu6.block k hk (by simpa using by have := G5.out.hb; omega))
            have HZ6 := Lib.hid hu6.size
            have CS : Hid (Calls Tryd.prog 32 #[.int .i64 4, .int .i64 1024, .pointer (some ⟨g, 0, none⟩)] w6 (SizedPost 4 b s (p4 + 1) l4 1024 w6)) := Lib.hid (rd_sized 4 b g s (p4 + 1) l4 1024 w6 HS.out hp6 (by decide) G6.out.rd G6.out.box)
            clear hu6 hr6 CP b0
            go_wp2_with fail
            refine (CS.out).mono ?_
            rintro e w7 ⟨nn, ok2, p7, rfl, hu7, hr7, hp7, hn7, hok, hno⟩
            have G7 := Lib.hid (G6.out.sub hu7 hr7 hp7 hl4)
            have HOK := Lib.hid (And.intro hok hno)
            have HB7 := Lib.hid (hu7.blk HB6.out (by have := G5.out.hb; omega))
            have HS7 := Lib.hid (Shape.Subs.keep HS6.out hu7.size (fun _ _ h => h) fun k hk hq => hu7.block k hk (by simpa using by have := G5.out.hb; omega))
            have HZ7 := Lib.hid hu7.size
            have HA7 := Lib.hid (G7.out.alloc #[.int .i64 4, .int .i64 (nn : Int), .slice none 0 0, .int .i64 0] TT)
            clear hu7 hr7 hok hno CS
            go_upto_region 22 with fail
            generalize w7.alloc (.cells #[.int .i64 4, .int .i64 (nn : Int), .slice none 0 0, .int .i64 0] TT) = w8 at *
            obtain ⟨hG8, hB8, hbl8⟩ := HA7.out _ rfl
            have HB8 := Lib.hid (Below.blk hbl8 HB7.out HB7.out.lt)
            have HS8 := Lib.hid (Shape.Subs.keep HS7.out hbl8.size (fun _ _ h => h) fun k hk _ => hbl8.block k hk)
            have HT8 := Lib.hid hB8
            have G8 := Lib.hid hG8
            have hlt7 : w7.heap.size < w8.heap.size := hB8.lt
            have hlt6 : w4.heap.size < w7.heap.size := HB7.out.lt
            have k0 := HB8.out.cell 0
            have k1 := HB8.out.cell 1
            have k2 := HB8.out.cell 2
            have k3 := HB8.out.cell 3
            have t2 := hB8.cell 2
            have tf := hB8.free 2
            simp only [List.getElem?_toArray, List.getElem?_cons_zero, List.getElem?_cons_succ] at k0 k1 k2 k3 t2
            have hgg : g + 2 ≤ w7.heap.size := G7.out.hg
            have HAA : Hid (∀ W, (w8.setCell ⟨w7.heap.size, 2, none⟩ (.slice (some ⟨w8.heap.size, 0, none⟩) 1 1)).alloc (.cells #[.int .i64 a.kind, .int .i64 a.size, .slice o n c, .int .i64 a.tail] TT) = W →
                (GSt w b g s p7 l4 W ∧ Blk W w7.heap.size #[.int .i64 4, .int .i64 (nn : Int), .slice (some ⟨w8.heap.size, 0, none⟩) 1 1, .int .i64 0] TT ∧ tshape.Subs W (fun k => g + 2 ≤ k) (.slice (some ⟨w8.heap.size, 0, none⟩) 1 1) [.node a sub])) := Lib.hid fun W h => by
              have h8 := G8.out.far hgg 2 (.slice (some ⟨w8.heap.size, 0, none⟩) 1 1)
              have b8 : Blk (w8.setCell ⟨w7.heap.size, 2, none⟩ (.slice (some ⟨w8.heap.size, 0, none⟩) 1 1)) w7.heap.size #[.int .i64 4, .int .i64 (nn : Int), .slice (some ⟨w8.heap.size, 0, none⟩) 1 1, .int .i64 0] TT := by simpa using HT8.out.set 2 (.slice (some ⟨w8.heap.size, 0, none⟩) 1 1)
              have s8 := Shape.Subs.keep (w' := w8.setCell ⟨w7.heap.size, 2, none⟩ (.slice (some ⟨w8.heap.size, 0, none⟩) 1 1)) HS8.out (by simp [World.setCell]) (fun _ _ h => h) fun k hk hq => Below.heap_setCell _ _ _ _ (by simp; omega)
              have sz : (w8.setCell ⟨w7.heap.size, 2, none⟩ (.slice (some ⟨w8.heap.size, 0, none⟩) 1 1)).heap.size = w8.heap.size := by simp [World.setCell]
              obtain ⟨h1, h2, h3⟩ := h8.alloc _ _ W h
              rw [sz] at h2
              have h5 := s8.keep (Q' := fun k => g + 2 ≤ k) h3.size (fun k _ hq => hq.1) fun k hk _ => h3.block k hk
              exact ⟨h1, Below.blk h3 b8 b8.lt, subs_one h2 HWF.out h5 (by omega)⟩
            clear hG8 hB8 hbl8 HA7
            go_upto_region 23 with fail
            refine wp_gen (fun W => GSt w b g s p7 l4 W ∧ Blk W w7.heap.size #[.int .i64 4, .int .i64 (nn : Int), .slice (some ⟨w8.heap.size, 0, none⟩) 1 1, .int .i64 0] TT ∧ tshape.Subs W (fun k => g + 2 ≤ k) (.slice (some ⟨w8.heap.size, 0, none⟩) 1 1) [.node a sub]) (HAA.out _ rfl) ?_
            rintro w9 ⟨hG9, hB9, hS9⟩
            have G9 := Lib.hid hG9
            have HB9 := Lib.hid hB9
            have HS9 := Lib.hid hS9
            have hlt9 : w7.heap.size < w9.heap.size := hB9.lt
            clear k0 k1 k2 k3 t2 tf HAA hG9 hB9 hS9 G8 HB8 HS8 HT8
            have b0 := G9.out.box
            obtain ⟨⟨x0, r0⟩, ⟨x1, r1⟩, ⟨x2, r2⟩, ⟨x3, r3⟩, y0, y1, y2, y3⟩ := G9.out.r0
            have k0 := HB9.out.cell 0
            have k1 := HB9.out.cell 1
            have k2 := HB9.out.cell 2
            have k3 := HB9.out.cell 3
            simp only [List.getElem?_toArray, List.getElem?_cons_zero, List.getElem?_cons_succ] at k0 k1 k2 k3
            have hg47 : g + 2 ≤ w7.heap.size := by omega
            cases ok2 with
            | false =>
              have hres2 : R = none := by
                rw [HU.out, HRD.out]
                simp only [Option.bind_some, HQ1.out.2, HOK.out.2 rfl]
                rfl
              have HN := Lib.hid hres2
              clear hres2
              go_big_region
              go_wp2_with fail
              rw [put4_eq, show ∀ A B C D, (put4 w9 (g + 1) A B C D).drew = put4 (w9.drewN 1) (g + 1) A B C D from fun _ _ _ _ => rfl]
              obtain ⟨e0, e1, e2, e3, hpost⟩ := (G9.out.drewN 1).fin (A := .int .i64 4) (B := .int .i64 (nn : Int)) (C := .slice (some ⟨w8.heap.size, 0, none⟩) 1 1) (D := .int .i64 0) ⟨4, (nn : Int), 0⟩ (some ⟨w8.heap.size, 0, none⟩) 1 1 false (fun h => by cases h) (fun _ => HN.out) rfl rfl rfl rfl
              refine bodyPost_ret (v := .tuple #[.agg #[.int .i64 4, .int .i64 (nn : Int), .slice (some ⟨w8.heap.size, 0, none⟩) 1 1, .int .i64 0], .bool false]) (by simp [results, Tryd.results23, go_sem, e0, e1, e2, e3]) rfl ?_
              rw [← HP.out]
              exact hpost
            | true =>
              have HX : Hid (GSt w b g s p7 l4 w9.drew) := Lib.hid (by have := G9.out.drewN 1; exact this)
              have HBX : Hid (Blk w9.drew w7.heap.size #[.int .i64 4, .int .i64 (nn : Int), .slice (some ⟨w8.heap.size, 0, none⟩) 1 1, .int .i64 0] TT) := Lib.hid HB9.out
              have CQ := Lib.hid (rd_passes b s p7 l4 93 w9.drew HS.out hp7 HX.out.rd)
              have HNT := Lib.hid (fun h => nextIs_true (c := 93) (s := s) (p := p7) hp7 h)
              have HK : Hid (∀ W p' , Upd b w9.drew W → RdB W b s p' l4 → p' ≤ s.size → (W.cell? ⟨w7.heap.size, 0, none⟩ = some (.int .i64 4) ∧ W.cell? ⟨w7.heap.size, 1, none⟩ = some (.int .i64 (nn : Int)) ∧ W.cell? ⟨w7.heap.size, 2, none⟩ = some (.slice (some ⟨w8.heap.size, 0, none⟩) 1 1) ∧ W.cell? ⟨w7.heap.size, 3, none⟩ = some (.int .i64 0)) ∧
                  GSt w b g s p' l4 W ∧ tshape.Subs W (fun k => g + 2 ≤ k) (.slice (some ⟨w8.heap.size, 0, none⟩) 1 1) [.node a sub]) := Lib.hid fun W p' hu hr hp' => by
                have h1 := hu.blk HBX.out (by have := G5.out.hb; omega)
                exact ⟨⟨h1.cell 0, h1.cell 1, h1.cell 2, h1.cell 3⟩, HX.out.sub hu hr hp' hl4, Shape.Subs.keep (HS9.out.keep (w' := w9.drew) (Nat.le_refl _) (fun _ _ h => h) fun _ _ _ => rfl) hu.size (fun _ _ h => h) fun k hk hq => hu.block k hk (by have := G5.out.hb; simp; omega)⟩
              cases hq3 : nextIs 93 (tailS s p7) with
              | true =>
                rw [hq3] at CQ
                have HQ3 := Lib.hid (HNT.out hq3)
                have CQ2 : Hid (Calls Tryd.prog 34 #[.pointer (some ⟨b, 0, none⟩), .int .u8 93] w9.drew fun e w' => e = .returned (.bool true) ∧ Upd b w9.drew w' ∧ RdB w' b s (p7 + 1) l4) := Lib.hid (CQ.out.mono fun e w' h => ⟨h.1, h.2.1, by simpa using h.2.2⟩)
                clear hq3 CQ
                have hp9 : p7 + 1 ≤ s.size := by have := HQ3.out.1; omega
                have HFIN : Hid (R = some (.node ⟨4, (nn : Int), 0⟩ [.node a sub], tailS s (p7 + 1), l4)) := Lib.hid (by
                  rw [HU.out, HRD.out]
                  simp only [Option.bind_some, HQ1.out.2, HOK.out.1 rfl, HQ3.out.2])
                have hn7' : nn ≤ 65536 := by omega
                clear IH HS HU HRD HWF HS5 HS6 HS7 HB5 HB6 HB7 G4 G5 G6 G7 HQ HM HQ1 HQ3 HOK HNT HX HBX HZ6 HZ7 hdep hsm hl1 hmm hqs hp4 hl4 hp6 hp7 hn7 hlt4 hlt6 hlt7 hgg hg47 HG3 hp hl HD d0 d1 d117 d98 d115
                go_region_with (refine (CQ2.out).mono ?_; rintro e w10 ⟨rfl, hu10, hr10⟩; obtain ⟨⟨kk0, kk1, kk2, kk3⟩, hG10, hS10⟩ := HK.out w10 _ hu10 hr10 hp9; have G10 := Lib.hid hG10; have HS10 := Lib.hid hS10; obtain ⟨⟨xx0, rr0⟩, ⟨xx1, rr1⟩, ⟨xx2, rr2⟩, ⟨xx3, rr3⟩, yy0, yy1, yy2, yy3⟩ := hG10.r0; clear hu10 hr10 hG10 hS10)
                all_goals
                  go_wp2_with fail
                  rw [put4_eq]
                  obtain ⟨e0, e1, e2, e3, hpost⟩ := G10.out.fin (A := .int .i64 4) (B := .int .i64 (nn : Int)) (C := .slice (some ⟨w8.heap.size, 0, none⟩) 1 1) (D := .int .i64 0) ⟨4, (nn : Int), 0⟩ (some ⟨w8.heap.size, 0, none⟩) 1 1 true (fun _ => ⟨_, HFIN.out, tl_wf (by omega), HS10.out⟩) (fun h => by cases h) rfl rfl rfl rfl
                  refine bodyPost_ret (v := .tuple #[.agg #[.int .i64 4, .int .i64 (nn : Int), .slice (some ⟨w8.heap.size, 0, none⟩) 1 1, .int .i64 0], .bool true]) (by simp [results, Tryd.results23, go_sem, Act.put, e0, e1, e2, e3]) rfl ?_
                  rw [← HP.out]
                  exact hpost
              | false =>
                rw [hq3] at CQ
                have HQ3 := Lib.hid hq3
                have CQ2 : Hid (Calls Tryd.prog 34 #[.pointer (some ⟨b, 0, none⟩), .int .u8 93] w9.drew fun e w' => e = .returned (.bool false) ∧ Upd b w9.drew w' ∧ RdB w' b s (p7) l4) := Lib.hid (CQ.out.mono fun e w' h => ⟨h.1, h.2.1, by simpa using h.2.2⟩)
                clear hq3 CQ
                have hp9 : p7 ≤ s.size := by omega
                have HFIN : Hid (R = none) := Lib.hid (by
                  rw [HU.out, HRD.out]
                  simp only [Option.bind_some, HQ1.out.2, HOK.out.1 rfl]
                  split
                  · rename_i r4 e4; exact (nextIs_false HQ3.out e4).elim
                  · rfl)
                have hn7' : nn ≤ 65536 := by omega
                clear IH HS HU HRD HWF HS5 HS6 HS7 HB5 HB6 HB7 G4 G5 G6 G7 HQ HM HQ1 HQ3 HOK HNT HX HBX HZ6 HZ7 hdep hsm hl1 hmm hqs hp4 hl4 hp6 hp7 hn7 hlt4 hlt6 hlt7 hgg hg47 HG3 hp hl HD d0 d1 d117 d98 d115
                go_region_with (refine (CQ2.out).mono ?_; rintro e w10 ⟨rfl, hu10, hr10⟩; obtain ⟨⟨kk0, kk1, kk2, kk3⟩, hG10, hS10⟩ := HK.out w10 _ hu10 hr10 hp9; have G10 := Lib.hid hG10; have HS10 := Lib.hid hS10; obtain ⟨⟨xx0, rr0⟩, ⟨xx1, rr1⟩, ⟨xx2, rr2⟩, ⟨xx3, rr3⟩, yy0, yy1, yy2, yy3⟩ := hG10.r0; clear hu10 hr10 hG10 hS10)
                all_goals
                  go_wp2_with fail
                  rw [put4_eq]
                  obtain ⟨e0, e1, e2, e3, hpost⟩ := G10.out.fin (A := .int .i64 4) (B := .int .i64 (nn : Int)) (C := .slice (some ⟨w8.heap.size, 0, none⟩) 1 1) (D := .int .i64 0) ⟨4, (nn : Int), 0⟩ (some ⟨w8.heap.size, 0, none⟩) 1 1 false (fun h => by cases h) (fun _ => HFIN.out) rfl rfl rfl rfl
                  refine bodyPost_ret (v := .tuple #[.agg #[.int .i64 4, .int .i64 (nn : Int), .slice (some ⟨w8.heap.size, 0, none⟩) 1 1, .int .i64 0], .bool false]) (by simp [results, Tryd.results23, go_sem, Act.put, e0, e1, e2, e3]) rfl ?_
                  rw [← HP.out]
                  exact hpost
      have d91 : ((s[p].toNat : Int) == 91) = false := hk.out 91 h91
      have HRS123 := Lib.hid HRS.out
      rw [if_neg h91] at HRS123
      clear h91 HRS
      have HRS := HRS123
      clear HRS123
      by_cases h123 : s[p] = 123
      · have d1 : ((s[p].toNat : Int) == 123) = true := by rw [h123]; rfl
        have HU := Lib.hid HRS.out
        rw [if_pos h123, show p + 2 = q + 1 by have := HQ.out; omega, show l + 1 = m + 2 by have := HM.out; omega] at HU
        have CF := Lib.hid (rd_fields D dep b s HS.out hdep (fun p l w h1 h2 h3 => IH.out (dep + 1) p l w (by have := HD.out; omega) h1 h2 h3) q m w3 hqs hmm G3.out.rd)
        rw [← HU.out] at CF
        have HG3 := Lib.hid G3.out.hg
        clear h123 HRS hk
        go_wp2_with fail
        refine (CF.out).mono ?_
        rintro e w4 ⟨a, o, n, c, ok, p4, l4, rfl, hu4, hr4, hp4, hl4, hok, hno⟩
        have G4 := Lib.hid (G3.out.sub hu4 hr4 hp4 hl4)
        have HOK := Lib.hid (And.intro hok hno)
        clear hu4 hr4 hok hno CF G3 b0 x0 r0 x1 r1 x2 r2 x3 r3 y0 y1 y2 y3
        obtain ⟨⟨x0, r0⟩, ⟨x1, r1⟩, ⟨x2, r2⟩, ⟨x3, r3⟩, y0, y1, y2, y3⟩ := G4.out.r0
        go_wp2_with fail
        have hres : ok = true → ∃ sub, R = some (.node a sub, tailS s p4, l4) ∧ TL.wf a ∧ tshape.Subs w4 (fun k => g + 2 ≤ k) (.slice o n c) sub := fun h => by
          obtain ⟨sub, h1, h2, h3⟩ := HOK.out.1 h
          exact ⟨sub, h1, h2, h3.keep (Nat.le_refl _) (fun k _ hq => Nat.le_trans HG3.out hq) fun _ _ _ => rfl⟩
        rw [put4_eq]
        obtain ⟨e0, e1, e2, e3, hpost⟩ := G4.out.fin (A := .int .i64 a.kind) (B := .int .i64 a.size) (C := .slice o n c) (D := .int .i64 a.tail) a o n c ok hres HOK.out.2 rfl rfl rfl rfl
        refine bodyPost_ret (v := .tuple #[.agg #[.int .i64 a.kind, .int .i64 a.size, .slice o n c, .int .i64 a.tail], .bool ok]) (by simp [results, Tryd.results23, go_sem, e0, e1, e2, e3]) rfl ?_
        rw [← HP.out]
        exact hpost
      · have d123 : ((s[p].toNat : Int) == 123) = false := hk.out 123 h123
        have HU := Lib.hid HRS.out
        rw [if_neg h123] at HU
        clear h123 HRS hk
        go_wp2_with fail
        rw [put4_eq]
        obtain ⟨e0, e1, e2, e3, hpost⟩ := G3.out.fin (A := .int .i64 0) (B := .int .i64 0) (C := .slice none 0 0) (D := .int .i64 0) ⟨0, 0, 0⟩ none 0 0 false (fun h => by cases h) (fun _ => HU.out) rfl rfl rfl rfl
        refine bodyPost_ret (v := .tuple #[.agg #[.int .i64 0, .int .i64 0, .slice none 0 0, .int .i64 0], .bool false]) (by simp [results, Tryd.results23, go_sem, e0, e1, e2, e3]) rfl ?_
        rw [← HP.out]
        exact hpost
end Go.Proofs.YtopfpfpefljkkaaDoor
