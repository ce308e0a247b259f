/- The document's types: parse. -/
import Derived.Test.YtopfpfpefljkkaaDoorRdAll
import Derived.Test.YtopfpfpefljkkaaDoorRefDig
namespace Go.Proofs.YtopfpfpefljkkaaDoor
open Go.RowKit
set_option linter.unusedVariables false
set_option linter.unusedSimpArgs false

/-- What parse leaves. -/
def PPost (R : Option (Rose TL × List UInt8)) (s : ByteArray) (w : World) (e : Ending) (w' : World) : Prop :=
  ∃ (a : TL) (o : Option Addr) (n c : Nat) (z : Int), e = .returned (.tuple #[.agg #[.int .i64 a.kind, .int .i64 a.size, .slice o n c, .int .i64 a.tail], .int .i64 z]) ∧ Below w.heap.size w w' ∧
    ((∃ sub q, R = some (.node a sub, tailS s q) ∧ z = (q : Nat) ∧ q ≤ s.size ∧ TL.wf a ∧ tshape.Subs w' (fun k => w.heap.size ≤ k) (.slice o n c) sub) ∨ (R = none ∧ z = -1))

theorem wf_mid {k : Int} (h0 : 0 ≤ k) (h1 : k ≤ 100000000) : (Lit.int .i64 k).wf = true := by
  have e1 : IntKind.i64.min = -9223372036854775808 := rfl
  have e2 : IntKind.i64.max = 9223372036854775807 := rfl
  simp [Lit.wf, e1, e2]; omega
theorem tl_wfm {k z t : Int} (h : (0 ≤ k ∧ k ≤ 100000000) ∧ (0 ≤ z ∧ z ≤ 100000000) ∧ (0 ≤ t ∧ t ≤ 100000000)) : TL.wf ⟨k, z, t⟩ := ⟨wf_mid h.1.1 h.1.2, wf_mid h.2.1.1 h.2.1.2, wf_mid h.2.2.1 h.2.2.2⟩
theorem subs_nil' (w : World) (Q : Nat → Prop) : tshape.Subs w Q (.slice none 0 0) [] := ⟨none, 0, rfl, Nat.le_refl _, Nat.zero_le _, fun h => absurd h (by simp)⟩
theorem tailS_len (s : ByteArray) (p : Nat) : (tailS s p).length = s.size - p := by unfold tailS; rw [List.length_drop]; rfl

/-- The result's block is written: the call ends. -/
theorem res_end {w0 w : World} {gr : Nat} (hb : Below gr w0 w) (hr : ∃ cs, Blk w gr cs TT ∧ cs.size = 4) (A B C D : Value) :
    (put4 w gr A B C D).cell? ⟨gr, 0, none⟩ = some A ∧ (put4 w gr A B C D).cell? ⟨gr, 1, none⟩ = some B ∧ (put4 w gr A B C D).cell? ⟨gr, 2, none⟩ = some C ∧ (put4 w gr A B C D).cell? ⟨gr, 3, none⟩ = some D ∧ Below gr w0 (put4 w gr A B C D) := by
  obtain ⟨cs, h1, h2⟩ := hr
  have hB := put4_blk' (a := A) (b := B) (c := C) (d := D) h1 h2
  exact ⟨hB.cell 0, hB.cell 1, hB.cell 2, hB.cell 3, hb.os, hb.tape, hb.output, Nat.le_trans hb.size (Nat.le_of_eq put4_size.symm), fun k hk => (put4_heap k (by omega)).trans (hb.block k hk)⟩
theorem res_cells {w : World} {gr : Nat} (hr : ∃ cs, Blk w gr cs TT ∧ cs.size = 4) : (∃ x, w.cell? ⟨gr, 0, none⟩ = some x) ∧ (∃ x, w.cell? ⟨gr, 1, none⟩ = some x) ∧ (∃ x, w.cell? ⟨gr, 2, none⟩ = some x) ∧ (∃ x, w.cell? ⟨gr, 3, none⟩ = some x) ∧
    w.frozen? ⟨gr, 0, none⟩ = false ∧ w.frozen? ⟨gr, 1, none⟩ = false ∧ w.frozen? ⟨gr, 2, none⟩ = false ∧ w.frozen? ⟨gr, 3, none⟩ = false := by
  obtain ⟨⟨l⟩, h1, h2⟩ := hr
  match l, h2 with
  | [x, y, z, u], _ => exact ⟨⟨x, h1.cell 0⟩, ⟨y, h1.cell 1⟩, ⟨z, h1.cell 2⟩, ⟨u, h1.cell 3⟩, h1.free 0, h1.free 1, h1.free 2, h1.free 3⟩

/-- The loop's state. -/
structure PSt (w0 : World) (gr : Nat) (v : Value) (L : List (Elt TL)) (t : Nat) (w : World) : Prop where
  bel : Below gr w0 w
  res : ∃ cs, Blk w gr cs TT ∧ cs.size = 4
  st : StB w (gr + 1) v t
  own : OwnT tshape TT w (gr + 2) v L
  hlen : L.length ≤ 2000
  ht : t ≤ 2000
  hB : gr + 2 ≤ w.heap.size
theorem PSt.sub {w0 w w' : World} {gr t : Nat} {v : Value} {L : List (Elt TL)} (h : PSt w0 gr v L t w) (hb : Below w.heap.size w w') : PSt w0 gr v L t w' := by
  obtain ⟨cs, h1, h2⟩ := h.res
  exact ⟨h.bel.trans (hb.mono (by have := h.hB; omega)), ⟨cs, Below.blk hb h1 h1.lt, h2⟩, Below.blk hb h.st (Blk.lt h.st), h.own.below hb, h.hlen, h.ht, Nat.le_trans h.hB hb.size⟩
theorem PSt.more {w0 w : World} {gr t : Nat} {v : Value} {L : List (Elt TL)} (h : PSt w0 gr v L t w) (ht : t < 2000) : PSt w0 gr v L (t + 1) (w.setCell ⟨gr + 1, 3, none⟩ (.int .i64 ((t : Int) + 1))) := by
  obtain ⟨cs, h1, h2⟩ := h.res
  have hu : Upd (gr + 1) w (w.setCell ⟨gr + 1, 3, none⟩ (.int .i64 ((t : Int) + 1))) := (Upd.refl _ _).set 3 _
  exact ⟨h.bel.setCell (p := ⟨gr + 1, 3, none⟩) (by simp) _, ⟨cs, h1.setOther (by simp) _, h2⟩, h.st.more, h.own.upd hu (by omega), h.hlen, by omega, by simpa [World.setCell] using h.hB⟩
theorem PSt.grown {w0 w w' : World} {gr t : Nat} {v v' : Value} {L : List (Elt TL)} {y : Elt TL} (h : PSt w0 gr v L t w) (hL : L.length < 2000) (ho : OwnT tshape TT w' (gr + 2) v' (L ++ [y])) (hb : Below (gr + 2) w w') (hsz : w.heap.size < w'.heap.size) :
    PSt w0 gr v' (L ++ [y]) t (w'.setCell ⟨gr + 1, 2, none⟩ v') := by
  obtain ⟨cs, h1, h2⟩ := h.res
  have hu : Upd (gr + 1) w' (w'.setCell ⟨gr + 1, 2, none⟩ v') := (Upd.refl _ _).set 2 _
  have hst : StB w' (gr + 1) v t := Below.blk hb h.st (by omega)
  exact ⟨(h.bel.trans (hb.mono (by omega))).setCell (p := ⟨gr + 1, 2, none⟩) (by simp) _, ⟨cs, (Below.blk hb h1 (by omega)).setOther (by simp) _, h2⟩, hst.sub v', ho.upd hu (by omega), by simp; omega, h.ht, by simp [World.setCell]; have := h.hB; omega⟩
theorem PSt.c0 {w0 w : World} {gr t : Nat} {v : Value} {L : List (Elt TL)} (h : PSt w0 gr v L t w) : w.cell? ⟨gr + 1, 0, none⟩ = some (.int .i64 5) ∧ w.cell? ⟨gr + 1, 1, none⟩ = some (.int .i64 0) ∧
    w.cell? ⟨gr + 1, 2, none⟩ = some v ∧ w.cell? ⟨gr + 1, 3, none⟩ = some (.int .i64 (t : Int)) ∧ w.frozen? ⟨gr + 1, 2, none⟩ = false ∧ w.frozen? ⟨gr + 1, 3, none⟩ = false := by
  have := h.st
  exact ⟨Blk.cell this 0, Blk.cell this 1, Blk.cell this 2, Blk.cell this 3, Blk.free this 2, Blk.free this 3⟩

/-! ### One step of parsing -/
theorem pf_end {pf : List UInt8 → Option (Rose TL × List UInt8)} {f t : Nat} {r : List UInt8} {sub : List (Rose TL)} : pflds pf (f + 1) (125 :: r) sub t = some (.node ⟨5, 0, t⟩ sub, r) := by simp [pflds]
theorem pf_nil {pf : List UInt8 → Option (Rose TL × List UInt8)} {f t : Nat} {sub : List (Rose TL)} : pflds pf (f + 1) [] sub t = none := by simp [pflds]
theorem pf_comma {pf : List UInt8 → Option (Rose TL × List UInt8)} {f t : Nat} {b : UInt8} {r : List UInt8} {sub : List (Rose TL)} (hb : b ≠ 125) (hs : sub ≠ []) (hc : b ≠ 44) : pflds pf (f + 1) (b :: r) sub t = none := by
  have : sub.isEmpty = false := by cases sub <;> simp_all
  simp [pflds, hb, this, hc]
theorem pf_first {pf : List UInt8 → Option (Rose TL × List UInt8)} {f t : Nat} {b : UInt8} {r : List UInt8} (hb : b ≠ 125) : pflds pf (f + 1) (b :: r) [] t = (mark (b :: r) t).bind fun q => (pf q.1).bind fun y => pflds pf f y.2 ([] ++ [y.1]) q.2 := by
  simp [pflds, hb]
theorem pf_next {pf : List UInt8 → Option (Rose TL × List UInt8)} {f t : Nat} {r : List UInt8} {sub : List (Rose TL)} (hs : sub ≠ []) : pflds pf (f + 1) (44 :: r) sub t = (mark r t).bind fun q => (pf q.1).bind fun y => pflds pf f y.2 (sub ++ [y.1]) q.2 := by
  have : sub.isEmpty = false := by cases sub <;> simp_all
  simp [pflds, this]
theorem ps_step (D : Nat) (s : ByteArray) (p : Nat) (hp : p < s.size) (b : UInt8) (hb : s[p] = b) : ps (D + 1) (tailS s p) =
    if b = 117 then (numC (tailS s (p + 1))).bind fun q => if q.1 % 8 = 0 then some (.node ⟨1, (q.1 / 8 : Nat), 0⟩ [], q.2) else none
    else if b = 98 then (numC (tailS s (p + 1))).bind fun q => some (.node ⟨2, q.1, 0⟩ [], q.2)
    else if b = 115 then (numC (tailS s (p + 1))).bind fun q => some (.node ⟨3, q.1, 0⟩ [], q.2)
    else if b = 91 then (ps D (tailS s (p + 1))).bind fun y => match y.2 with
        | 58 :: r2 => (numC r2).bind fun q => match q.2 with
          | 93 :: r4 => some (.node ⟨4, q.1, 0⟩ [y.1], r4)
          | _ => none
        | _ => none
    else if b = 123 then pflds (ps D) (s.size - p) (tailS s (p + 1)) [] 0
    else none := by
  rw [tailS_lt hp, hb]
  simp only [ps]
  rw [show (tailS s (p + 1)).length + 1 = s.size - p by rw [tailS_len]; omega]
  rfl
theorem ps_out (D : Nat) (s : ByteArray) (p : Nat) (hp : s.size ≤ p) : ps (D + 1) (tailS s p) = none := by
  rw [tailS_end hp]; rfl

set_option maxRecDepth 100000 in
set_option maxHeartbeats 8000000 in
theorem ref_parse (s : ByteArray) (hs : s.size ≤ 1000) : ∀ (D dep p : Nat) (w : World), dep + D = 9 → p ≤ s.size →
    Calls Tryd.prog 24 #[.string s, .int .i64 (p : Int), .int .i64 (dep : Int)] w (PPost (ps D (tailS s p)) s w) := by
  intro D
  induction D with
  | zero =>
    intro dep p w hd hp
    have d2 : decide (8 < (dep : Int)) = true := by simp; omega
    obtain ⟨g, hg⟩ : ∃ g, w.heap.size = g := ⟨_, rfl⟩
    have HA : Hid (∀ W, w.alloc (.cells #[.int .i64 0, .int .i64 0, .slice none 0 0, .int .i64 0] TT) = W → Below g w W ∧ (∃ cs, Blk W g cs TT ∧ cs.size = 4) ∧ W.heap.size = g + 1) := Lib.hid fun W h => by
      subst h
      have hal := (Below.refl w.heap.size w).alloc (Nat.le_refl _) (.cells #[.int .i64 0, .int .i64 0, .slice none 0 0, .int .i64 0] TT)
      have hb1 := Blk.new w #[.int .i64 0, .int .i64 0, .slice none 0 0, .int .i64 0] TT
      rw [hg] at hal hb1
      exact ⟨hal, ⟨_, hb1, rfl⟩, by simp; omega⟩
    obtain ⟨R, hR⟩ : ∃ R, ps (0) (tailS s p) = R := ⟨_, rfl⟩
    have HR := Lib.hid hR
    rw [hR]
    obtain ⟨POST, hP⟩ : ∃ POST, PPost R s w = POST := ⟨_, rfl⟩
    have HP := Lib.hid hP
    rw [hP]
    have HD := Lib.hid hd
    clear hR hP hd
    have HN : Hid (R = none) := Lib.hid (by rw [← HR.out]; rfl)
    by_cases hout : s.size ≤ p
    · have d1 : decide (s.size ≤ p) = true := decide_eq_true (by omega)
      clear hout
      go_enter Tryd.func24, Tryd.ntmps24
      go_upto_region 1 with fail
      generalize w.alloc (.cells #[.int .i64 0, .int .i64 0, .slice none 0 0, .int .i64 0] TT) = w1 at *
      have G := Lib.hid (HA.out _ rfl)
      clear HA
      obtain ⟨⟨x0, r0⟩, ⟨x1, r1⟩, ⟨x2, r2⟩, ⟨x3, r3⟩, y0, y1, y2, y3⟩ := res_cells G.out.2.1
      go_wp2_with fail
      rw [put4_eq]
      obtain ⟨e0, e1, e2, e3, hbl⟩ := res_end G.out.1 G.out.2.1 (.int .i64 0) (.int .i64 0) (.slice none 0 0) (.int .i64 0)
      refine bodyPost_ret (v := .tuple #[.agg #[.int .i64 0, .int .i64 0, .slice none 0 0, .int .i64 0], .int .i64 (-1)]) (by simp [results, Tryd.results24, go_sem, e0, e1, e2, e3]) rfl ?_
      rw [← HP.out]
      exact ⟨⟨0, 0, 0⟩, none, 0, 0, (-1), rfl, hg ▸ hbl, .inr ⟨HN.out, rfl⟩⟩
    · have d1 : decide (s.size ≤ p) = false := decide_eq_false (by omega)
      clear hout
      go_enter Tryd.func24, Tryd.ntmps24
      go_upto_region 1 with fail
      generalize w.alloc (.cells #[.int .i64 0, .int .i64 0, .slice none 0 0, .int .i64 0] TT) = w1 at *
      have G := Lib.hid (HA.out _ rfl)
      clear HA
      obtain ⟨⟨x0, r0⟩, ⟨x1, r1⟩, ⟨x2, r2⟩, ⟨x3, r3⟩, y0, y1, y2, y3⟩ := res_cells G.out.2.1
      go_wp2_with fail
      rw [put4_eq]
      obtain ⟨e0, e1, e2, e3, hbl⟩ := res_end G.out.1 G.out.2.1 (.int .i64 0) (.int .i64 0) (.slice none 0 0) (.int .i64 0)
      refine bodyPost_ret (v := .tuple #[.agg #[.int .i64 0, .int .i64 0, .slice none 0 0, .int .i64 0], .int .i64 (-1)]) (by simp [results, Tryd.results24, go_sem, e0, e1, e2, e3]) rfl ?_
      rw [← HP.out]
      exact ⟨⟨0, 0, 0⟩, none, 0, 0, (-1), rfl, hg ▸ hbl, .inr ⟨HN.out, rfl⟩⟩
  | succ D ih =>
    intro dep p w hd hp
    have d2 : decide (8 < (dep : Int)) = false := by simp; omega
    have hdep : dep ≤ 8 := by omega
    obtain ⟨g, hg⟩ : ∃ g, w.heap.size = g := ⟨_, rfl⟩
    have HA : Hid (∀ W, w.alloc (.cells #[.int .i64 0, .int .i64 0, .slice none 0 0, .int .i64 0] TT) = W → Below g w W ∧ (∃ cs, Blk W g cs TT ∧ cs.size = 4) ∧ W.heap.size = g + 1) := Lib.hid fun W h => by
      subst h
      have hal := (Below.refl w.heap.size w).alloc (Nat.le_refl _) (.cells #[.int .i64 0, .int .i64 0, .slice none 0 0, .int .i64 0] TT)
      have hb1 := Blk.new w #[.int .i64 0, .int .i64 0, .slice none 0 0, .int .i64 0] TT
      rw [hg] at hal hb1
      exact ⟨hal, ⟨_, hb1, rfl⟩, by simp; omega⟩
    obtain ⟨R, hR⟩ : ∃ R, ps (D + 1) (tailS s p) = R := ⟨_, rfl⟩
    have HR := Lib.hid hR
    rw [hR]
    obtain ⟨POST, hP⟩ : ∃ POST, PPost R s w = POST := ⟨_, rfl⟩
    have HP := Lib.hid hP
    rw [hP]
    have HD := Lib.hid hd
    clear hR hP hd
    have IH := Lib.hid ih
    clear ih
    by_cases hout : s.size ≤ p
    · have HN : Hid (R = none) := Lib.hid (by rw [← HR.out, ps_out D s p hout])
      have d1 : decide (s.size ≤ p) = true := decide_eq_true (by omega)
      clear hout
      go_enter Tryd.func24, Tryd.ntmps24
      go_upto_region 1 with fail
      generalize w.alloc (.cells #[.int .i64 0, .int .i64 0, .slice none 0 0, .int .i64 0] TT) = w1 at *
      have G := Lib.hid (HA.out _ rfl)
      clear HA
      obtain ⟨⟨x0, r0⟩, ⟨x1, r1⟩, ⟨x2, r2⟩, ⟨x3, r3⟩, y0, y1, y2, y3⟩ := res_cells G.out.2.1
      go_wp2_with fail
      rw [put4_eq]
      obtain ⟨e0, e1, e2, e3, hbl⟩ := res_end G.out.1 G.out.2.1 (.int .i64 0) (.int .i64 0) (.slice none 0 0) (.int .i64 0)
      refine bodyPost_ret (v := .tuple #[.agg #[.int .i64 0, .int .i64 0, .slice none 0 0, .int .i64 0], .int .i64 (-1)]) (by simp [results, Tryd.results24, go_sem, e0, e1, e2, e3]) rfl ?_
      rw [← HP.out]
      exact ⟨⟨0, 0, 0⟩, none, 0, 0, (-1), rfl, hg ▸ hbl, .inr ⟨HN.out, rfl⟩⟩
    · have hp1 : p < s.size := by omega
      have d1 : decide (s.size ≤ p) = false := decide_eq_false (by omega)
      have HRS := Lib.hid (HR.out.symm.trans (ps_step D s p hp1 s[p] rfl))
      clear hout HR
      have hk : Hid (∀ c : UInt8, s[p] ≠ c → ((s[p].toNat : Int) == (c.toNat : Int)) = false) := Lib.hid fun c h => by
        rw [beq_eq_false_iff_ne]; intro h'; exact h (UInt8.toNat_inj.1 (by omega))
      have hkn : Hid (∀ c : UInt8, s[p] ≠ c → ((s[p].toNat : Int) != (c.toNat : Int)) = true) := Lib.hid fun c h => by
        rw [bne_iff_ne]; intro h'; exact h (UInt8.toNat_inj.1 (by omega))
      go_enter Tryd.func24, Tryd.ntmps24
      go_upto_region 1 with fail
      generalize w.alloc (.cells #[.int .i64 0, .int .i64 0, .slice none 0 0, .int .i64 0] TT) = w1 at *
      have G := Lib.hid (HA.out _ rfl)
      clear HA
      obtain ⟨⟨x0, r0⟩, ⟨x1, r1⟩, ⟨x2, r2⟩, ⟨x3, r3⟩, y0, y1, y2, y3⟩ := res_cells G.out.2.1
      obtain ⟨q, hq⟩ : ∃ q, p + 1 = q := ⟨_, rfl⟩
      have HQ := Lib.hid hq
      have hqs : q ≤ s.size := by omega
      rw [hq] at HRS
      have e1 : (p : Int) + 1 = q := by omega
      have HE1 := Lib.hid e1
      clear hq e1
      have CD := Lib.hid (ref_digits s q w1 hs hqs)
      have CD' : Hid (Calls Tryd.prog 36 #[.string s, .int .i64 ((p : Int) + 1)] w1 (DigPost s q w1)) := Lib.hid (by rw [HE1.out]; exact CD.out)
      clear CD
      by_cases h117 : s[p] = 117
      · have l0 : ((s[p].toNat : Int) == 117) = true := by rw [h117]; rfl
        have HU := Lib.hid HRS.out
        rw [if_pos h117] at HU
        clear h117 HRS hk hkn
        go_wp2_with fail
        refine (CD'.out).mono ?_
        rintro e w2 ⟨n, z, rfl, rfl, hn, hres⟩
        have HN := Lib.hid hn
        rcases hres with ⟨q2, h1, rfl, h2, h3⟩ | ⟨h1, rfl, rfl⟩
        · by_cases h8 : n % 8 = 0
          · have dm : ((n : Int) % 8 != 0) = false := by simp; omega
            obtain ⟨nd, hnd⟩ : ∃ nd, n / 8 = nd := ⟨_, rfl⟩
            have hdv : (n : Int) / 8 = nd := by omega
            have HS : Hid (R = some (.node ⟨1, (nd : Int), 0⟩ [], tailS s q2)) := Lib.hid (by rw [HU.out, h1, Option.bind_some, if_pos h8, hnd])
            have hnd2 : nd ≤ 10000000 := by omega
            have HH := Lib.hid (And.intro h2 hnd2)
            have hnd0 : (0 : Int) ≤ nd := by omega
            have hnd9 : (nd : Int) ≤ 10000000 := by omega
            clear h1 h8 hnd hn hnd2
            go_wp2_with fail
            rw [put4_eq]
            obtain ⟨e0, e1, e2, e3, hbl⟩ := res_end G.out.1 G.out.2.1 (.int .i64 1) (.int .i64 (nd : Int)) (.slice none 0 0) (.int .i64 0)
            refine bodyPost_ret (v := .tuple #[.agg #[.int .i64 1, .int .i64 (nd : Int), .slice none 0 0, .int .i64 0], .int .i64 (q2 : Int)]) (by simp [results, Tryd.results24, go_sem, e0, e1, e2, e3]) rfl ?_
            rw [← HP.out]
            exact ⟨⟨1, (nd : Int), 0⟩, none, 0, 0, (q2 : Int), rfl, hg ▸ hbl, .inl ⟨[], q2, HS.out, rfl, HH.out.1, tl_wfm (by have := HH.out.2; omega), subs_nil' _ _⟩⟩
          · have dm : ((n : Int) % 8 != 0) = true := by rw [bne_iff_ne]; omega
            have HS : Hid (R = none) := Lib.hid (by rw [HU.out, h1, Option.bind_some, if_neg h8])
            clear h1 h8 hn
            go_wp2_with fail
            rw [put4_eq]
            obtain ⟨e0, e1, e2, e3, hbl⟩ := res_end G.out.1 G.out.2.1 (.int .i64 0) (.int .i64 0) (.slice none 0 0) (.int .i64 0)
            refine bodyPost_ret (v := .tuple #[.agg #[.int .i64 0, .int .i64 0, .slice none 0 0, .int .i64 0], .int .i64 (-1)]) (by simp [results, Tryd.results24, go_sem, e0, e1, e2, e3]) rfl ?_
            rw [← HP.out]
            exact ⟨⟨0, 0, 0⟩, none, 0, 0, (-1), rfl, hg ▸ hbl, .inr ⟨HS.out, rfl⟩⟩
        · have HS : Hid (R = none) := Lib.hid (by rw [HU.out, h1]; rfl)
          clear h1 hn
          go_wp2_with fail
          rw [put4_eq]
          obtain ⟨e0, e1, e2, e3, hbl⟩ := res_end G.out.1 G.out.2.1 (.int .i64 1) (.int .i64 0) (.slice none 0 0) (.int .i64 0)
          refine bodyPost_ret (v := .tuple #[.agg #[.int .i64 1, .int .i64 0, .slice none 0 0, .int .i64 0], .int .i64 (-1)]) (by simp [results, Tryd.results24, go_sem, e0, e1, e2, e3]) rfl ?_
          rw [← HP.out]
          exact ⟨⟨1, 0, 0⟩, none, 0, 0, (-1), rfl, hg ▸ hbl, .inr ⟨HS.out, rfl⟩⟩
      have d117 : ((s[p].toNat : Int) == 117) = false := hk.out 117 h117
      have HRS98 := Lib.hid HRS.out
      rw [if_neg h117] at HRS98
      clear h117 HRS
      have HRS := HRS98
      clear HRS98
      by_cases h98 : s[p] = 98
      · have l0 : ((s[p].toNat : Int) == 98) = true := by rw [h98]; rfl
        have HU := Lib.hid HRS.out
        rw [if_pos h98] at HU
        clear h98 HRS hk hkn
        go_wp2_with fail
        refine (CD'.out).mono ?_
        rintro e w2 ⟨n, z, rfl, rfl, hn, hres⟩
        have HN := Lib.hid hn
        rcases hres with ⟨q2, h1, rfl, h2, h3⟩ | ⟨h1, rfl, rfl⟩
        · have HS : Hid (R = some (.node ⟨2, (n : Int), 0⟩ [], tailS s q2)) := Lib.hid (by rw [HU.out, h1]; rfl)
          have HH := Lib.hid h2
          clear h1 hn
          go_wp2_with fail
          rw [put4_eq]
          obtain ⟨e0, e1, e2, e3, hbl⟩ := res_end G.out.1 G.out.2.1 (.int .i64 2) (.int .i64 (n : Int)) (.slice none 0 0) (.int .i64 0)
          refine bodyPost_ret (v := .tuple #[.agg #[.int .i64 2, .int .i64 (n : Int), .slice none 0 0, .int .i64 0], .int .i64 (q2 : Int)]) (by simp [results, Tryd.results24, go_sem, e0, e1, e2, e3]) rfl ?_
          rw [← HP.out]
          exact ⟨⟨2, (n : Int), 0⟩, none, 0, 0, (q2 : Int), rfl, hg ▸ hbl, .inl ⟨[], q2, HS.out, rfl, HH.out, tl_wfm (by have := HN.out; omega), subs_nil' _ _⟩⟩
        · have HS : Hid (R = none) := Lib.hid (by rw [HU.out, h1]; rfl)
          clear h1 hn
          go_wp2_with fail
          rw [put4_eq]
          obtain ⟨e0, e1, e2, e3, hbl⟩ := res_end G.out.1 G.out.2.1 (.int .i64 2) (.int .i64 0) (.slice none 0 0) (.int .i64 0)
          refine bodyPost_ret (v := .tuple #[.agg #[.int .i64 2, .int .i64 0, .slice none 0 0, .int .i64 0], .int .i64 (-1)]) (by simp [results, Tryd.results24, go_sem, e0, e1, e2, e3]) rfl ?_
          rw [← HP.out]
          exact ⟨⟨2, 0, 0⟩, none, 0, 0, (-1), rfl, hg ▸ hbl, .inr ⟨HS.out, rfl⟩⟩
      have d98 : ((s[p].toNat : Int) == 98) = false := hk.out 98 h98
      have HRS115 := Lib.hid HRS.out
      rw [if_neg h98] at HRS115
      clear h98 HRS
      have HRS := HRS115
      clear HRS115
      by_cases h115 : s[p] = 115
      · have l0 : ((s[p].toNat : Int) == 115) = true := by rw [h115]; rfl
        have HU := Lib.hid HRS.out
        rw [if_pos h115] at HU
        clear h115 HRS hk hkn
        go_wp2_with fail
        refine (CD'.out).mono ?_
        rintro e w2 ⟨n, z, rfl, rfl, hn, hres⟩
        have HN := Lib.hid hn
        rcases hres with ⟨q2, h1, rfl, h2, h3⟩ | ⟨h1, rfl, rfl⟩
        · have HS : Hid (R = some (.node ⟨3, (n : Int), 0⟩ [], tailS s q2)) := Lib.hid (by rw [HU.out, h1]; rfl)
          have HH := Lib.hid h2
          clear h1 hn
          go_wp2_with fail
          rw [put4_eq]
          obtain ⟨e0, e1, e2, e3, hbl⟩ := res_end G.out.1 G.out.2.1 (.int .i64 3) (.int .i64 (n : Int)) (.slice none 0 0) (.int .i64 0)
          refine bodyPost_ret (v := .tuple #[.agg #[.int .i64 3, .int .i64 (n : Int), .slice none 0 0, .int .i64 0], .int .i64 (q2 : Int)]) (by simp [results, Tryd.results24, go_sem, e0, e1, e2, e3]) rfl ?_
          rw [← HP.out]
          exact ⟨⟨3, (n : Int), 0⟩, none, 0, 0, (q2 : Int), rfl, hg ▸ hbl, .inl ⟨[], q2, HS.out, rfl, HH.out, tl_wfm (by have := HN.out; omega), subs_nil' _ _⟩⟩
        · have HS : Hid (R = none) := Lib.hid (by rw [HU.out, h1]; rfl)
          clear h1 hn
          go_wp2_with fail
          rw [put4_eq]
          obtain ⟨e0, e1, e2, e3, hbl⟩ := res_end G.out.1 G.out.2.1 (.int .i64 3) (.int .i64 0) (.slice none 0 0) (.int .i64 0)
          refine bodyPost_ret (v := .tuple #[.agg #[.int .i64 3, .int .i64 0, .slice none 0 0, .int .i64 0], .int .i64 (-1)]) (by simp [results, Tryd.results24, go_sem, e0, e1, e2, e3]) rfl ?_
          rw [← HP.out]
          exact ⟨⟨3, 0, 0⟩, none, 0, 0, (-1), rfl, hg ▸ hbl, .inr ⟨HS.out, rfl⟩⟩
      have d115 : ((s[p].toNat : Int) == 115) = false := hk.out 115 h115
      have HRS91 := Lib.hid HRS.out
      rw [if_neg h115] at HRS91
      clear h115 HRS
      have HRS := HRS91
      clear HRS91
      by_cases h91 : s[p] = 91
      · have l0 : ((s[p].toNat : Int) == 91) = true := by rw [h91]; rfl
        have HU := Lib.hid HRS.out
        rw [if_pos h91] at HU
        have CR : Hid (Calls Tryd.prog 24 #[.string s, .int .i64 ((p : Int) + 1), .int .i64 ((dep : Int) + 1)] w1 (PPost (ps D (tailS s q)) s w1)) := Lib.hid (by rw [HE1.out]; exact IH.out (dep + 1) q w1 (by have := HD.out; omega) hqs)
        clear h91 HRS hk hkn CD'
        go_wp2_with fail
        refine (CR.out).mono ?_
        rintro e w2 ⟨a, o, n, c, z, rfl, hb2, hres⟩
        have hz1 := G.out.2.2
        have HA2 : Hid (∀ W, w2.alloc (.cells #[.int .i64 a.kind, .int .i64 a.size, .slice o n c, .int .i64 a.tail] TT) = W → Below g w W ∧ (∃ cs, Blk W g cs TT ∧ cs.size = 4) ∧ Blk W w2.heap.size #[.int .i64 a.kind, .int .i64 a.size, .slice o n c, .int .i64 a.tail] TT ∧ Below w2.heap.size w2 W) := Lib.hid fun W h => by
          subst h
          have hal := (Below.refl w2.heap.size w2).alloc (Nat.le_refl _) (.cells #[.int .i64 a.kind, .int .i64 a.size, .slice o n c, .int .i64 a.tail] TT)
          obtain ⟨cs, h1, h2⟩ := G.out.2.1
          have h3 : Below g w w2 := G.out.1.trans (hb2.mono (by omega))
          exact ⟨h3.trans (hal.mono (by have := hb2.size; omega)), ⟨cs, Below.blk hal (Below.blk hb2 h1 (by omega)) (by have := hb2.size; omega), h2⟩, Blk.new w2 _ _, hal⟩
        have HRES := Lib.hid hres
        have hz2 : g + 1 ≤ w2.heap.size := by have := hb2.size; omega
        clear hres hb2 CR x0 r0 x1 r1 x2 r2 x3 r3 y0 y1 y2 y3
        go_upto_region 17 with fail
        generalize w2.alloc (.cells #[.int .i64 a.kind, .int .i64 a.size, .slice o n c, .int .i64 a.tail] TT) = w3 at *
        have G3 := Lib.hid (HA2.out _ rfl)
        obtain ⟨⟨x0, r0⟩, ⟨x1, r1⟩, ⟨x2, r2⟩, ⟨x3, r3⟩, y0, y1, y2, y3⟩ := res_cells G3.out.2.1
        have k0 := G3.out.2.2.1.cell 0
        have k1 := G3.out.2.2.1.cell 1
        have k2 := G3.out.2.2.1.cell 2
        have k3 := G3.out.2.2.1.cell 3
        simp only [List.getElem?_toArray, List.getElem?_cons_zero, List.getElem?_cons_succ] at k0 k1 k2 k3
        have hg3 : g < w3.heap.size := by have := G3.out.2.2.2.size; omega
        clear HA2
        rcases HRES.out with ⟨sub, q2, h1, rfl, h2, h3, h4⟩ | ⟨h1, rfl⟩
        · have HS1 := Lib.hid h1
          have HSUB : Hid (TL.wf a ∧ tshape.Subs w3 (fun k => g + 1 ≤ k) (.slice o n c) sub) := Lib.hid ⟨h3, h4.keep G3.out.2.2.2.size (fun k _ hk => by omega) fun k hk _ => G3.out.2.2.2.block k hk⟩
          have hq0 : decide ((q2 : Int) < 0) = false := by simp
          clear h1 h3 h4 HRES
          by_cases he : s.size ≤ q2
          · have d3 : decide (s.size ≤ q2) = true := decide_eq_true he
            have HN : Hid (R = none) := Lib.hid (by rw [HU.out, HS1.out]; simp only [Option.bind_some, tailS_end he])
            clear he
            go_wp2_with fail
            rw [put4_eq]
            obtain ⟨e0, e1, e2, e3, hbl⟩ := res_end G3.out.1 G3.out.2.1 (.int .i64 0) (.int .i64 0) (.slice none 0 0) (.int .i64 0)
            refine bodyPost_ret (v := .tuple #[.agg #[.int .i64 0, .int .i64 0, .slice none 0 0, .int .i64 0], .int .i64 (-1)]) (by simp [results, Tryd.results24, go_sem, e0, e1, e2, e3]) rfl ?_
            rw [← HP.out]
            exact ⟨⟨0, 0, 0⟩, none, 0, 0, (-1), rfl, hg ▸ hbl, .inr ⟨HN.out, rfl⟩⟩
          · have hlt : q2 < s.size := by omega
            have d3 : decide (s.size ≤ q2) = false := decide_eq_false he
            have HT2 := Lib.hid (tailS_lt hlt)
            clear he
            by_cases h58 : s[q2] = 58
            · have l2 : ((s[q2].toNat : Int) != 58) = false := by rw [h58]; rfl
              have HU2 : Hid (R = (numC (tailS s (q2 + 1))).bind fun q => match q.2 with
                  | 93 :: r4 => some (.node ⟨4, q.1, 0⟩ [.node a sub], r4)
                  | _ => none) := Lib.hid (by rw [HU.out, HS1.out]; simp only [Option.bind_some, HT2.out, h58])
              have CD2 : Hid (Calls Tryd.prog 36 #[.string s, .int .i64 ((q2 : Int) + 1)] w3 (DigPost s (q2 + 1) w3)) := Lib.hid (ref_digits s (q2 + 1) w3 hs (by omega))
              clear h58 HU HS1 HT2
              go_wp2_with fail
              refine (CD2.out).mono ?_
              rintro e w4 ⟨nn, z2, rfl, rfl, hnn, hres2⟩
              have HNN := Lib.hid hnn
              rcases hres2 with ⟨q3, g1, rfl, g2, g3⟩ | ⟨g1, rfl, rfl⟩
              · have HG1 := Lib.hid g1
                clear g1
                by_cases he : s.size ≤ q3
                · have d4 : decide (s.size ≤ q3) = true := decide_eq_true he
                  have HN : Hid (R = none) := Lib.hid (by rw [HU2.out, HG1.out]; simp only [Option.bind_some, tailS_end he])
                  clear he hnn
                  go_wp2_with fail
                  rw [put4_eq]
                  obtain ⟨e0, e1, e2, e3, hbl⟩ := res_end G3.out.1 G3.out.2.1 (.int .i64 0) (.int .i64 0) (.slice none 0 0) (.int .i64 0)
                  refine bodyPost_ret (v := .tuple #[.agg #[.int .i64 0, .int .i64 0, .slice none 0 0, .int .i64 0], .int .i64 (-1)]) (by simp [results, Tryd.results24, go_sem, e0, e1, e2, e3]) rfl ?_
                  rw [← HP.out]
                  exact ⟨⟨0, 0, 0⟩, none, 0, 0, (-1), rfl, hg ▸ hbl, .inr ⟨HN.out, rfl⟩⟩
                · have hlt3 : q3 < s.size := by omega
                  have d4 : decide (s.size ≤ q3) = false := decide_eq_false he
                  have HT3 := Lib.hid (tailS_lt hlt3)
                  clear he
                  by_cases h93 : s[q3] = 93
                  · have l3 : ((s[q3].toNat : Int) != 93) = false := by rw [h93]; rfl
                    have HS : Hid (R = some (.node ⟨4, (nn : Int), 0⟩ [.node a sub], tailS s (q3 + 1))) := Lib.hid (by rw [HU2.out, HG1.out]; simp only [Option.bind_some, HT3.out, h93])
                    clear h93 HU2 HT3 HG1 hnn
                    have hq3b : q3 ≤ 1000 := by omega
                    go_wp2_with fail
                    rw [put4_eq]
                    obtain ⟨e0, e1, e2, e3, hbl⟩ := res_end G3.out.1 G3.out.2.1 (.int .i64 4) (.int .i64 (nn : Int)) (.slice (some ⟨w4.heap.size, 0, none⟩) 1 1) (.int .i64 0)
                    have hsub := put4_subs (g := g) (a := .int .i64 4) (b := .int .i64 (nn : Int)) (c := .slice (some ⟨w4.heap.size, 0, none⟩) 1 1) (d := .int .i64 0) HSUB.out.2 (fun k hk => by omega)
                    have hpz := put4_size (w := w4) (g := g) (a := .int .i64 4) (b := .int .i64 (nn : Int)) (c := .slice (some ⟨w4.heap.size, 0, none⟩) 1 1) (d := .int .i64 0)
                    generalize put4 w4 g (.int .i64 4) (.int .i64 (nn : Int)) (.slice (some ⟨w4.heap.size, 0, none⟩) 1 1) (.int .i64 0) = w5 at *
                    have hal := (Below.refl w5.heap.size w5).alloc (Nat.le_refl _) (.cells #[.int .i64 a.kind, .int .i64 a.size, .slice o n c, .int .i64 a.tail] TT)
                    have hnb := Blk.new w5 #[.int .i64 a.kind, .int .i64 a.size, .slice o n c, .int .i64 a.tail] TT
                    rw [hpz] at hnb
                    have hsub2 := hsub.below hal
                    have i0 := (hal.cell (p := ⟨g, 0, none⟩) (show g < w5.heap.size by omega)).trans e0
                    have i1 := (hal.cell (p := ⟨g, 1, none⟩) (show g < w5.heap.size by omega)).trans e1
                    have i2 := (hal.cell (p := ⟨g, 2, none⟩) (show g < w5.heap.size by omega)).trans e2
                    have i3 := (hal.cell (p := ⟨g, 3, none⟩) (show g < w5.heap.size by omega)).trans e3
                    have hbl2 := hbl.trans (hal.mono (by omega))
                    generalize w5.alloc (.cells #[.int .i64 a.kind, .int .i64 a.size, .slice o n c, .int .i64 a.tail] TT) = w6 at *
                    refine bodyPost_ret (v := .tuple #[.agg #[.int .i64 4, .int .i64 (nn : Int), .slice (some ⟨w4.heap.size, 0, none⟩) 1 1, .int .i64 0], .int .i64 ((q3 : Int) + 1)]) (by simp [results, Tryd.results24, go_sem, i0, i1, i2, i3]) rfl ?_
                    rw [← HP.out]
                    exact ⟨⟨4, (nn : Int), 0⟩, _, 1, 1, _, rfl, hg ▸ hbl2, .inl ⟨_, q3 + 1, HS.out, by simp, by omega, tl_wfm (by have := HNN.out; omega), (subs_one (Q := fun k => g + 1 ≤ k) hnb HSUB.out.1 hsub2 (by omega)).keep (Nat.le_refl _) (fun k _ hk => by omega) fun _ _ _ => rfl⟩⟩
                  · have l3 : ((s[q3].toNat : Int) != 93) = true := by rw [bne_iff_ne]; intro h'; exact h93 (UInt8.toNat_inj.1 (by have : (93 : UInt8).toNat = 93 := rfl; omega))
                    have HN : Hid (R = none) := Lib.hid (by
                      rw [HU2.out, HG1.out]
                      simp only [Option.bind_some, HT3.out]
                      split
                      · rename_i r4 e4; exact absurd (List.cons.inj e4).1 h93
                      · rfl)
                    clear h93 HU2 HT3 HG1 hnn
                    go_wp2_with fail
                    rw [put4_eq]
                    obtain ⟨e0, e1, e2, e3, hbl⟩ := res_end G3.out.1 G3.out.2.1 (.int .i64 0) (.int .i64 0) (.slice none 0 0) (.int .i64 0)
                    refine bodyPost_ret (v := .tuple #[.agg #[.int .i64 0, .int .i64 0, .slice none 0 0, .int .i64 0], .int .i64 (-1)]) (by simp [results, Tryd.results24, go_sem, e0, e1, e2, e3]) rfl ?_
                    rw [← HP.out]
                    exact ⟨⟨0, 0, 0⟩, none, 0, 0, (-1), rfl, hg ▸ hbl, .inr ⟨HN.out, rfl⟩⟩
              · have HN : Hid (R = none) := Lib.hid (by rw [HU2.out, g1]; rfl)
                clear g1 hnn
                go_wp2_with fail
                rw [put4_eq]
                obtain ⟨e0, e1, e2, e3, hbl⟩ := res_end G3.out.1 G3.out.2.1 (.int .i64 0) (.int .i64 0) (.slice none 0 0) (.int .i64 0)
                refine bodyPost_ret (v := .tuple #[.agg #[.int .i64 0, .int .i64 0, .slice none 0 0, .int .i64 0], .int .i64 (-1)]) (by simp [results, Tryd.results24, go_sem, e0, e1, e2, e3]) rfl ?_
                rw [← HP.out]
                exact ⟨⟨0, 0, 0⟩, none, 0, 0, (-1), rfl, hg ▸ hbl, .inr ⟨HN.out, rfl⟩⟩
            · have l2 : ((s[q2].toNat : Int) != 58) = true := by rw [bne_iff_ne]; intro h'; exact h58 (UInt8.toNat_inj.1 (by have : (58 : UInt8).toNat = 58 := rfl; omega))
              have HN : Hid (R = none) := Lib.hid (by
                rw [HU.out, HS1.out]
                simp only [Option.bind_some, HT2.out]
                split
                · rename_i r4 e4; exact absurd (List.cons.inj e4).1 h58
                · rfl)
              clear h58 HU HS1 HT2
              go_wp2_with fail
              rw [put4_eq]
              obtain ⟨e0, e1, e2, e3, hbl⟩ := res_end G3.out.1 G3.out.2.1 (.int .i64 0) (.int .i64 0) (.slice none 0 0) (.int .i64 0)
              refine bodyPost_ret (v := .tuple #[.agg #[.int .i64 0, .int .i64 0, .slice none 0 0, .int .i64 0], .int .i64 (-1)]) (by simp [results, Tryd.results24, go_sem, e0, e1, e2, e3]) rfl ?_
              rw [← HP.out]
              exact ⟨⟨0, 0, 0⟩, none, 0, 0, (-1), rfl, hg ▸ hbl, .inr ⟨HN.out, rfl⟩⟩
        · have HN : Hid (R = none) := Lib.hid (by rw [HU.out, h1]; rfl)
          clear h1 HRES
          go_wp2_with fail
          rw [put4_eq]
          obtain ⟨e0, e1, e2, e3, hbl⟩ := res_end G3.out.1 G3.out.2.1 (.int .i64 0) (.int .i64 0) (.slice none 0 0) (.int .i64 0)
          refine bodyPost_ret (v := .tuple #[.agg #[.int .i64 0, .int .i64 0, .slice none 0 0, .int .i64 0], .int .i64 (-1)]) (by simp [results, Tryd.results24, go_sem, e0, e1, e2, e3]) rfl ?_
          rw [← HP.out]
          exact ⟨⟨0, 0, 0⟩, none, 0, 0, (-1), rfl, hg ▸ hbl, .inr ⟨HN.out, rfl⟩⟩
      have d91 : ((s[p].toNat : Int) == 91) = false := hk.out 91 h91
      have HRS123 := Lib.hid HRS.out
      rw [if_neg h91] at HRS123
      clear h91 HRS
      have HRS := HRS123
      clear HRS123
      by_cases h123 : s[p] = 123
      · have l0 : ((s[p].toNat : Int) != 123) = false := by rw [h123]; rfl
        have HU := Lib.hid HRS.out
        rw [if_pos h123] at HU
        clear h123 HRS hk hkn CD'
        obtain ⟨i0, hi, hz0, hz1, hz2⟩ := info_parts tt_info
        have HA2 : Hid (∀ W, w1.alloc (.cells #[.int .i64 5, .int .i64 0, .slice none 0 0, .int .i64 0] TT) = W → PSt w g (.slice none 0 0) [] 0 W) := Lib.hid fun W h => by
          subst h
          have hz1 := G.out.2.2
          have hal := (Below.refl w1.heap.size w1).alloc (Nat.le_refl _) (.cells #[.int .i64 5, .int .i64 0, .slice none 0 0, .int .i64 0] TT)
          have hb2 := Blk.new w1 #[.int .i64 5, .int .i64 0, .slice none 0 0, .int .i64 0] TT
          obtain ⟨cs, h1, h2⟩ := G.out.2.1
          rw [hz1] at hb2
          exact ⟨G.out.1.trans (hal.mono (by omega)), ⟨cs, Below.blk hal h1 (by omega), h2⟩, hb2, OwnT.nil _ _ _ _, by simp, by omega, by simp; omega⟩
        have hz1 := G.out.2.2
        clear x0 r0 x1 r1 x2 r2 x3 r3 y0 y1 y2 y3
        go_wp2_with fail
        have F0 := Lib.hid (HA2.out _ rfl)
        generalize w1.alloc (.cells #[.int .i64 5, .int .i64 0, .slice none 0 0, .int .i64 0] TT) = w2 at *
        clear HA2 G hz1
        go_loopw [1, 16, 17] (fun iv _ _ wi => ∃ (f k t : Nat) (v : Value) (L : List (Elt TL)), iv = .int .i64 (k : Nat) ∧ Hid (PSt w g v L t wi) ∧ s.size - k < f ∧ Hid (R = pflds (ps D) f (tailS s k) (L.map Elt.tree) t) ∧ L.length ≤ k ∧ t ≤ L.length ∧ k ≤ s.size) (fun iv _ _ _ => s.size - (intOf iv).toNat)
        case atStart => exact ⟨s.size - p, q, 0, .slice none 0 0, [], by rw [HE1.out], Lib.hid F0.out, by have := HQ.out; omega, Lib.hid (by rw [HU.out]; rfl), by simp, by simp, hqs⟩
        case round =>
          obtain ⟨f, k, t, v, L, rfl, F, hf, HRr, hLk, htL, hks⟩ := hrel
          obtain ⟨f, rfl⟩ : ∃ f', f = f' + 1 := ⟨f - 1, by omega⟩
          obtain ⟨oa, cap, rfl⟩ := F.out.own.slice
          obtain ⟨c0, c1, c2, c3, z2, z3⟩ := F.out.c0
          obtain ⟨⟨x0, r0⟩, ⟨x1, r1⟩, ⟨x2, r2⟩, ⟨x3, r3⟩, y0, y1, y2, y3⟩ := res_cells F.out.res
          obtain ⟨M, hM⟩ : ∃ M, L.length = M := ⟨_, rfl⟩
          have HM := Lib.hid hM
          rw [hM] at hLk htL F c2
          clear hM F0 HU
          by_cases he : s.size ≤ k
          · have d3 : decide (k < s.size) = false := decide_eq_false (by omega)
            have d4 : decide (s.size ≤ k) = true := decide_eq_true he
            have HN : Hid (R = none) := Lib.hid (by rw [HRr.out, tailS_end he, pf_nil])
            clear he
            go_wp2_with fail
            rw [put4_eq]
            obtain ⟨e0, e1, e2, e3, hbl⟩ := res_end F.out.bel F.out.res (.int .i64 0) (.int .i64 0) (.slice none 0 0) (.int .i64 0)
            refine bodyPost_ret (v := .tuple #[.agg #[.int .i64 0, .int .i64 0, .slice none 0 0, .int .i64 0], .int .i64 (-1)]) (by simp [results, Tryd.results24, go_sem, e0, e1, e2, e3]) rfl ?_
            rw [← HP.out]
            exact ⟨⟨0, 0, 0⟩, none, 0, 0, (-1), rfl, hg ▸ hbl, .inr ⟨HN.out, rfl⟩⟩
          have hlt : k < s.size := by omega
          have d3 : decide (k < s.size) = true := decide_eq_true hlt
          have HTL := Lib.hid (tailS_lt hlt)
          by_cases h125 : s[k] = 125
          · have l1 : ((s[k].toNat : Int) != 125) = false := by rw [h125]; rfl
            have d4 : decide (s.size ≤ k) = false := decide_eq_false he
            have HS : Hid (R = some (.node ⟨5, 0, (t : Int)⟩ (L.map Elt.tree), tailS s (k + 1))) := Lib.hid (by rw [HRr.out, HTL.out, h125, pf_end])
            clear he h125
            have hsub := F.out.own.subs
            have HSB := Lib.hid hsub
            clear hsub
            go_wp2_with fail
            rw [put4_eq]
            obtain ⟨e0, e1, e2, e3, hbl⟩ := res_end F.out.bel F.out.res (.int .i64 5) (.int .i64 0) (.slice oa M cap) (.int .i64 (t : Int))
            refine bodyPost_ret (v := .tuple #[.agg #[.int .i64 5, .int .i64 0, .slice oa M cap, .int .i64 (t : Int)], .int .i64 ((k : Int) + 1)]) (by simp [results, Tryd.results24, go_sem, e0, e1, e2, e3]) rfl ?_
            rw [← HP.out]
            exact ⟨⟨5, 0, (t : Int)⟩, oa, M, cap, ((k : Int) + 1), rfl, hg ▸ hbl, .inl ⟨L.map Elt.tree, k + 1, HS.out, by simp, by omega, tl_wfm (by omega), (put4_subs HSB.out (fun k hk => by omega)).keep (Nat.le_refl _) (fun k _ hk => by omega) fun _ _ _ => rfl⟩⟩
          have l1 : ((s[k].toNat : Int) != 125) = true := by rw [bne_iff_ne]; intro h'; exact h125 (UInt8.toNat_inj.1 (by have : (125 : UInt8).toNat = 125 := rfl; omega))
          have HNE := Lib.hid h125
          clear he h125
          by_cases h0 : M = 0
          · have d5 : decide (0 < M) = false := decide_eq_false (by omega)
            have HST : Hid (R = (mark (tailS s k) t).bind fun q => (ps D q.1).bind fun y => pflds (ps D) f y.2 (L.map Elt.tree ++ [y.1]) q.2) := Lib.hid (by
              have e : L = [] := List.length_eq_zero_iff.1 (HM.out.trans h0)
              subst e
              rw [HRr.out, HTL.out]
              exact pf_first HNE.out)
            have hqk : k ≤ s.size := hks
            have hkk : k ≤ k := Nat.le_refl _
            clear HRr h0
            have HMY : Hid (nextIs 63 (tailS s (k)) = true → mark (tailS s (k)) t = some (tailS s (k + 1), t + 1)) := Lib.hid fun h => mark_yes hqk h
            have HMN : Hid (nextIs 63 (tailS s (k)) = false → mark (tailS s (k)) t = if 0 < t then none else some (tailS s (k), t)) := Lib.hid fun h => mark_no h
            have hq3 : (∃ h : k < s.size, Hid (s[k] = 63)) ∨ (k = s.size) ∨ (∃ h : k < s.size, Hid (s[k] ≠ 63)) := by
              rcases Nat.lt_or_ge (k) s.size with h | h
              · by_cases h2 : s[k] = 63
                · exact .inl ⟨h, h2⟩
                · exact .inr (.inr ⟨h, h2⟩)
              · exact .inr (.inl (by omega))
            rcases hq3 with ⟨hl3, h63⟩ | hl3 | ⟨hl3, h63⟩
            · have d6 : decide (k < s.size) = true := decide_eq_true hl3
              have l3 : ((s[k].toNat : Int) == 63) = true := by rw [h63.out]; rfl
              have HMK := Lib.hid (HMY.out (by rw [tailS_lt hl3, h63.out]; rfl))
              have ht1 : t + 1 ≤ M + 1 := by omega
              have hp3 : k + 1 ≤ s.size := by omega
              have hp4 : k ≤ k + 1 := by omega
              clear HMY HMN h63
              go_upto_region 33 with fail
              have F3 := Lib.hid (F.out.more (by omega))
              generalize wr.setCell ⟨g + 1, 3, none⟩ (.int .i64 ((t : Int) + 1)) = w3 at *
              clear c0 c1 c2 c3 z2 z3 x0 r0 x1 r1 x2 r2 x3 r3 y0 y1 y2 y3 F
              have CR : Hid (Calls Tryd.prog 24 #[.string s, .int .i64 ((k : Int) + 1), .int .i64 ((dep : Int) + 1)] w3 (PPost (ps D (tailS s (k + 1))) s w3)) := Lib.hid (IH.out (dep + 1) (k + 1) w3 (by have := HD.out; omega) hp3)
              go_wp2_with fail
              refine (CR.out).mono ?_
              rintro e w4 ⟨a, o, n, c, z, rfl, hb4, hres⟩
              have HB4 := Lib.hid hb4
              have hz3 : g + 2 ≤ w3.heap.size := F3.out.hB
              have hz4 : w3.heap.size ≤ w4.heap.size := hb4.size
              have HOB := Lib.hid F3.out.own.block
              have HA4 : Hid (∀ W, w4.alloc (.cells #[.int .i64 a.kind, .int .i64 a.size, .slice o n c, .int .i64 a.tail] TT) = W → PSt w g (.slice oa M cap) L (t + 1) W ∧ Blk W w4.heap.size #[.int .i64 a.kind, .int .i64 a.size, .slice o n c, .int .i64 a.tail] TT ∧ Below w4.heap.size w4 W) := Lib.hid fun W h => by
                subst h
                have hal := (Below.refl w4.heap.size w4).alloc (Nat.le_refl _) (.cells #[.int .i64 a.kind, .int .i64 a.size, .slice o n c, .int .i64 a.tail] TT)
                exact ⟨(F3.out.sub HB4.out).sub hal, Blk.new w4 _ _, hal⟩
              have HRES := Lib.hid hres
              clear hres hb4 CR
              go_upto_region 37 with fail
              generalize w4.alloc (.cells #[.int .i64 a.kind, .int .i64 a.size, .slice o n c, .int .i64 a.tail] TT) = w5 at *
              have G5 := Lib.hid (HA4.out _ rfl)
              have F5 := Lib.hid G5.out.1
              clear HA4
              rcases HRES.out with ⟨sub, p2, h1, rfl, h2, h3, h4⟩ | ⟨h1, rfl⟩
              · have HPS := Lib.hid h1
                have hgt : k + 1 < p2 := by
                  have := ps_length _ _ _ h1
                  simp only [tailS_len] at this
                  omega
                obtain ⟨c0, c1, c2, c3, z2, z3⟩ := F5.out.c0
                have q0 := G5.out.2.1.cell 0
                have q1 := G5.out.2.1.cell 1
                have q2 := G5.out.2.1.cell 2
                have q3 := G5.out.2.1.cell 3
                simp only [List.getElem?_toArray, List.getElem?_cons_zero, List.getElem?_cons_succ] at q0 q1 q2 q3
                have HS5 : Hid (tshape.Subs w5 (fun k => g + 2 ≤ k ∧ (Value.slice oa M cap).ownBlock ≠ some k) (.slice o n c) sub) := Lib.hid (h4.keep G5.out.2.2.size (fun k hk hq => ⟨by omega, fun e => by have := (HOB.out k e).2; omega⟩) fun k hk _ => G5.out.2.2.block k hk)
                have HWF := Lib.hid h3
                have hB5 : g + 2 ≤ w5.heap.size := F5.out.hB
                have HOWN := Lib.hid F5.out.own
                have hM1000 : M ≤ 1000 := by omega
                clear h1 h3 h4 HRES
                go_upto_region 40 with (at_builtin; refine append_tree (S := tshape) tt_slice hi hz0 hz1 hz2 rfl (by decide) tt_one rfl (.tmp 181) (.tmp 183) rfl (g + 2) (.slice oa M cap) L ⟨a, .slice o n c, sub⟩ w5 _ rfl rfl HOWN.out rfl (by have := HM.out; omega) (by decide) hB5 HWF.out HS5.out ?_; intro g2 cap2 w6 hown6 hb6 hsz6 hgr6; have hcc : w6.cell? ⟨g + 1, 2, none⟩ = some (.slice oa M cap) := (hb6.cell (p := ⟨g + 1, 2, none⟩) (show g + 1 < g + 2 by omega)).trans c2; have hfz : w6.frozen? ⟨g + 1, 2, none⟩ = false := (hb6.frozen (p := ⟨g + 1, 2, none⟩) (show g + 1 < g + 2 by omega)).trans z2)
                have F7 := Lib.hid (F5.out.grown (by have := HM.out; omega) hown6 hb6 hsz6)
                generalize w6.setCell ⟨g + 1, 2, none⟩ (.slice (some ⟨g2, 0, none⟩) (L.length + 1) cap2) = w7 at *
                have HTR : Hid ((L ++ [(⟨a, .slice o n c, sub⟩ : Elt TL)]).map Elt.tree = L.map Elt.tree ++ [.node a sub]) := Lib.hid (by simp [Elt.tree])
                have HLN : Hid ((L ++ [(⟨a, .slice o n c, sub⟩ : Elt TL)]).length = M + 1) := Lib.hid (by rw [List.length_append, HM.out]; rfl)
                obtain ⟨L2, hL2⟩ : ∃ L2, L ++ [(⟨a, .slice o n c, sub⟩ : Elt TL)] = L2 := ⟨_, rfl⟩
                rw [hL2] at HTR HLN F7
                clear hcc hfz hown6 hb6 hsz6 hgr6 c0 c1 c2 c3 z2 z3 q0 q1 q2 q3 HOWN HS5 HWF hL2
                go_wp2_with fail
                have h3 := HLN.out
                refine ⟨⟨f, p2, t + 1, _, L2, rfl, Lib.hid F7.out, by omega, Lib.hid (by rw [HST.out, HMK.out, Option.bind_some, HPS.out, Option.bind_some, HTR.out]), by omega, by omega, h2⟩, ?_⟩
                simp only [intOf, Int.toNat_natCast]
                omega
              · have HN : Hid (R = none) := Lib.hid (by rw [HST.out, HMK.out, Option.bind_some, h1]; rfl)
                obtain ⟨⟨x0, r0⟩, ⟨x1, r1⟩, ⟨x2, r2⟩, ⟨x3, r3⟩, y0, y1, y2, y3⟩ := res_cells F5.out.res
                clear h1 HRES
                go_wp2_with fail
                rw [put4_eq]
                obtain ⟨e0, e1, e2, e3, hbl⟩ := res_end F5.out.bel F5.out.res (.int .i64 0) (.int .i64 0) (.slice none 0 0) (.int .i64 0)
                refine bodyPost_ret (v := .tuple #[.agg #[.int .i64 0, .int .i64 0, .slice none 0 0, .int .i64 0], .int .i64 (-1)]) (by simp [results, Tryd.results24, go_sem, e0, e1, e2, e3]) rfl ?_
                rw [← HP.out]
                exact ⟨⟨0, 0, 0⟩, none, 0, 0, (-1), rfl, hg ▸ hbl, .inr ⟨HN.out, rfl⟩⟩
            · omega
            · have d6 : decide (k < s.size) = true := decide_eq_true hl3
              have l3 : ((s[k].toNat : Int) == 63) = false := by rw [beq_eq_false_iff_ne]; intro h'; exact h63.out (UInt8.toNat_inj.1 (by have : (63 : UInt8).toNat = 63 := rfl; omega))
              have HMK' := Lib.hid (HMN.out (by rw [tailS_lt hl3]; simp [nextIs, h63.out]))
              clear HMY HMN h63
              by_cases ht0 : 0 < t
              · have d7 : decide (0 < t) = true := decide_eq_true ht0
                have HN : Hid (R = none) := Lib.hid (by rw [HST.out, HMK'.out, if_pos ht0]; rfl)
                clear ht0
                go_wp2_with fail
                rw [put4_eq]
                obtain ⟨e0, e1, e2, e3, hbl⟩ := res_end F.out.bel F.out.res (.int .i64 0) (.int .i64 0) (.slice none 0 0) (.int .i64 0)
                refine bodyPost_ret (v := .tuple #[.agg #[.int .i64 0, .int .i64 0, .slice none 0 0, .int .i64 0], .int .i64 (-1)]) (by simp [results, Tryd.results24, go_sem, e0, e1, e2, e3]) rfl ?_
                rw [← HP.out]
                exact ⟨⟨0, 0, 0⟩, none, 0, 0, (-1), rfl, hg ▸ hbl, .inr ⟨HN.out, rfl⟩⟩
              · obtain rfl : t = 0 := by omega
                have HMK : Hid (mark (tailS s (k)) 0 = some (tailS s (k), 0)) := Lib.hid (by rw [HMK'.out]; rfl)
                have F3 := Lib.hid F.out
                have ht1 : 0 ≤ M + 1 := by omega
                have hp3 : k ≤ s.size := hqk
                have hp4 : k ≤ k := hkk
                clear ht0 HMK'
                go_upto_region 36 with fail
                generalize wr = w3 at *
                clear c0 c1 c2 c3 z2 z3 x0 r0 x1 r1 x2 r2 x3 r3 y0 y1 y2 y3 F
                have CR : Hid (Calls Tryd.prog 24 #[.string s, .int .i64 ((k : Int)), .int .i64 ((dep : Int) + 1)] w3 (PPost (ps D (tailS s (k))) s w3)) := Lib.hid (IH.out (dep + 1) (k) w3 (by have := HD.out; omega) hp3)
                go_wp2_with fail
                refine (CR.out).mono ?_
                rintro e w4 ⟨a, o, n, c, z, rfl, hb4, hres⟩
                have HB4 := Lib.hid hb4
                have hz3 : g + 2 ≤ w3.heap.size := F3.out.hB
                have hz4 : w3.heap.size ≤ w4.heap.size := hb4.size
                have HOB := Lib.hid F3.out.own.block
                have HA4 : Hid (∀ W, w4.alloc (.cells #[.int .i64 a.kind, .int .i64 a.size, .slice o n c, .int .i64 a.tail] TT) = W → PSt w g (.slice oa M cap) L (0) W ∧ Blk W w4.heap.size #[.int .i64 a.kind, .int .i64 a.size, .slice o n c, .int .i64 a.tail] TT ∧ Below w4.heap.size w4 W) := Lib.hid fun W h => by
                  subst h
                  have hal := (Below.refl w4.heap.size w4).alloc (Nat.le_refl _) (.cells #[.int .i64 a.kind, .int .i64 a.size, .slice o n c, .int .i64 a.tail] TT)
                  exact ⟨(F3.out.sub HB4.out).sub hal, Blk.new w4 _ _, hal⟩
                have HRES := Lib.hid hres
                clear hres hb4 CR
                go_upto_region 37 with fail
                generalize w4.alloc (.cells #[.int .i64 a.kind, .int .i64 a.size, .slice o n c, .int .i64 a.tail] TT) = w5 at *
                have G5 := Lib.hid (HA4.out _ rfl)
                have F5 := Lib.hid G5.out.1
                clear HA4
                rcases HRES.out with ⟨sub, p2, h1, rfl, h2, h3, h4⟩ | ⟨h1, rfl⟩
                · have HPS := Lib.hid h1
                  have hgt : k < p2 := by
                    have := ps_length _ _ _ h1
                    simp only [tailS_len] at this
                    omega
                  obtain ⟨c0, c1, c2, c3, z2, z3⟩ := F5.out.c0
                  have q0 := G5.out.2.1.cell 0
                  have q1 := G5.out.2.1.cell 1
                  have q2 := G5.out.2.1.cell 2
                  have q3 := G5.out.2.1.cell 3
                  simp only [List.getElem?_toArray, List.getElem?_cons_zero, List.getElem?_cons_succ] at q0 q1 q2 q3
                  have HS5 : Hid (tshape.Subs w5 (fun k => g + 2 ≤ k ∧ (Value.slice oa M cap).ownBlock ≠ some k) (.slice o n c) sub) := Lib.hid (h4.keep G5.out.2.2.size (fun k hk hq => ⟨by omega, fun e => by have := (HOB.out k e).2; omega⟩) fun k hk _ => G5.out.2.2.block k hk)
                  have HWF := Lib.hid h3
                  have hB5 : g + 2 ≤ w5.heap.size := F5.out.hB
                  have HOWN := Lib.hid F5.out.own
                  have hM1000 : M ≤ 1000 := by omega
                  clear h1 h3 h4 HRES
                  go_upto_region 40 with (at_builtin; refine append_tree (S := tshape) tt_slice hi hz0 hz1 hz2 rfl (by decide) tt_one rfl (.tmp 181) (.tmp 183) rfl (g + 2) (.slice oa M cap) L ⟨a, .slice o n c, sub⟩ w5 _ rfl rfl HOWN.out rfl (by have := HM.out; omega) (by decide) hB5 HWF.out HS5.out ?_; intro g2 cap2 w6 hown6 hb6 hsz6 hgr6; have hcc : w6.cell? ⟨g + 1, 2, none⟩ = some (.slice oa M cap) := (hb6.cell (p := ⟨g + 1, 2, none⟩) (show g + 1 < g + 2 by omega)).trans c2; have hfz : w6.frozen? ⟨g + 1, 2, none⟩ = false := (hb6.frozen (p := ⟨g + 1, 2, none⟩) (show g + 1 < g + 2 by omega)).trans z2)
                  have F7 := Lib.hid (F5.out.grown (by have := HM.out; omega) hown6 hb6 hsz6)
                  generalize w6.setCell ⟨g + 1, 2, none⟩ (.slice (some ⟨g2, 0, none⟩) (L.length + 1) cap2) = w7 at *
                  have HTR : Hid ((L ++ [(⟨a, .slice o n c, sub⟩ : Elt TL)]).map Elt.tree = L.map Elt.tree ++ [.node a sub]) := Lib.hid (by simp [Elt.tree])
                  have HLN : Hid ((L ++ [(⟨a, .slice o n c, sub⟩ : Elt TL)]).length = M + 1) := Lib.hid (by rw [List.length_append, HM.out]; rfl)
                  obtain ⟨L2, hL2⟩ : ∃ L2, L ++ [(⟨a, .slice o n c, sub⟩ : Elt TL)] = L2 := ⟨_, rfl⟩
                  rw [hL2] at HTR HLN F7
                  clear hcc hfz hown6 hb6 hsz6 hgr6 c0 c1 c2 c3 z2 z3 q0 q1 q2 q3 HOWN HS5 HWF hL2
                  go_wp2_with fail
                  have h3 := HLN.out
                  refine ⟨⟨f, p2, 0, _, L2, rfl, Lib.hid F7.out, by omega, Lib.hid (by rw [HST.out, HMK.out, Option.bind_some, HPS.out, Option.bind_some, HTR.out]), by omega, by omega, h2⟩, ?_⟩
                  simp only [intOf, Int.toNat_natCast]
                  omega
                · have HN : Hid (R = none) := Lib.hid (by rw [HST.out, HMK.out, Option.bind_some, h1]; rfl)
                  obtain ⟨⟨x0, r0⟩, ⟨x1, r1⟩, ⟨x2, r2⟩, ⟨x3, r3⟩, y0, y1, y2, y3⟩ := res_cells F5.out.res
                  clear h1 HRES
                  go_wp2_with fail
                  rw [put4_eq]
                  obtain ⟨e0, e1, e2, e3, hbl⟩ := res_end F5.out.bel F5.out.res (.int .i64 0) (.int .i64 0) (.slice none 0 0) (.int .i64 0)
                  refine bodyPost_ret (v := .tuple #[.agg #[.int .i64 0, .int .i64 0, .slice none 0 0, .int .i64 0], .int .i64 (-1)]) (by simp [results, Tryd.results24, go_sem, e0, e1, e2, e3]) rfl ?_
                  rw [← HP.out]
                  exact ⟨⟨0, 0, 0⟩, none, 0, 0, (-1), rfl, hg ▸ hbl, .inr ⟨HN.out, rfl⟩⟩
          · have d5 : decide (0 < M) = true := decide_eq_true (by omega)
            have hne : L.map Elt.tree ≠ [] := by
              intro e
              have := congrArg List.length e
              rw [List.length_map, HM.out] at this
              exact h0 (by simpa using this)
            by_cases h44 : s[k] = 44
            · have l2 : ((s[k].toNat : Int) != 44) = false := by rw [h44]; rfl
              have HST : Hid (R = (mark (tailS s (k + 1)) t).bind fun q => (ps D q.1).bind fun y => pflds (ps D) f y.2 (L.map Elt.tree ++ [y.1]) q.2) := Lib.hid (by
                rw [HRr.out, HTL.out, h44]
                exact pf_next hne)
              have hqk : k + 1 ≤ s.size := by omega
              have hkk : k ≤ k + 1 := by omega
              clear HRr h0 h44 hne
              have HMY : Hid (nextIs 63 (tailS s (k + 1)) = true → mark (tailS s (k + 1)) t = some (tailS s (k + 1 + 1), t + 1)) := Lib.hid fun h => mark_yes hqk h
              have HMN : Hid (nextIs 63 (tailS s (k + 1)) = false → mark (tailS s (k + 1)) t = if 0 < t then none else some (tailS s (k + 1), t)) := Lib.hid fun h => mark_no h
              have hq3 : (∃ h : k + 1 < s.size, Hid (s[k + 1] = 63)) ∨ (k + 1 = s.size) ∨ (∃ h : k + 1 < s.size, Hid (s[k + 1] ≠ 63)) := by
                rcases Nat.lt_or_ge (k + 1) s.size with h | h
                · by_cases h2 : s[k + 1] = 63
                  · exact .inl ⟨h, h2⟩
                  · exact .inr (.inr ⟨h, h2⟩)
                · exact .inr (.inl (by omega))
              rcases hq3 with ⟨hl3, h63⟩ | hl3 | ⟨hl3, h63⟩
              · have d6 : decide (k + 1 < s.size) = true := decide_eq_true hl3
                have l3 : ((s[k + 1].toNat : Int) == 63) = true := by rw [h63.out]; rfl
                have HMK := Lib.hid (HMY.out (by rw [tailS_lt hl3, h63.out]; rfl))
                have ht1 : t + 1 ≤ M + 1 := by omega
                have hp3 : k + 1 + 1 ≤ s.size := by omega
                have hp4 : k ≤ k + 1 + 1 := by omega
                clear HMY HMN h63
                go_upto_region 33 with fail
                have F3 := Lib.hid (F.out.more (by omega))
                generalize wr.setCell ⟨g + 1, 3, none⟩ (.int .i64 ((t : Int) + 1)) = w3 at *
                clear c0 c1 c2 c3 z2 z3 x0 r0 x1 r1 x2 r2 x3 r3 y0 y1 y2 y3 F
                have CR : Hid (Calls Tryd.prog 24 #[.string s, .int .i64 (((k : Int) + 1) + 1), .int .i64 ((dep : Int) + 1)] w3 (PPost (ps D (tailS s (k + 1 + 1))) s w3)) := Lib.hid (IH.out (dep + 1) (k + 1 + 1) w3 (by have := HD.out; omega) hp3)
                go_wp2_with fail
                refine (CR.out).mono ?_
                rintro e w4 ⟨a, o, n, c, z, rfl, hb4, hres⟩
                have HB4 := Lib.hid hb4
                have hz3 : g + 2 ≤ w3.heap.size := F3.out.hB
                have hz4 : w3.heap.size ≤ w4.heap.size := hb4.size
                have HOB := Lib.hid F3.out.own.block
                have HA4 : Hid (∀ W, w4.alloc (.cells #[.int .i64 a.kind, .int .i64 a.size, .slice o n c, .int .i64 a.tail] TT) = W → PSt w g (.slice oa M cap) L (t + 1) W ∧ Blk W w4.heap.size #[.int .i64 a.kind, .int .i64 a.size, .slice o n c, .int .i64 a.tail] TT ∧ Below w4.heap.size w4 W) := Lib.hid fun W h => by
                  subst h
                  have hal := (Below.refl w4.heap.size w4).alloc (Nat.le_refl _) (.cells #[.int .i64 a.kind, .int .i64 a.size, .slice o n c, .int .i64 a.tail] TT)
                  exact ⟨(F3.out.sub HB4.out).sub hal, Blk.new w4 _ _, hal⟩
                have HRES := Lib.hid hres
                clear hres hb4 CR
                go_upto_region 37 with fail
                generalize w4.alloc (.cells #[.int .i64 a.kind, .int .i64 a.size, .slice o n c, .int .i64 a.tail] TT) = w5 at *
                have G5 := Lib.hid (HA4.out _ rfl)
                have F5 := Lib.hid G5.out.1
                clear HA4
                rcases HRES.out with ⟨sub, p2, h1, rfl, h2, h3, h4⟩ | ⟨h1, rfl⟩
                · have HPS := Lib.hid h1
                  have hgt : k + 1 + 1 < p2 := by
                    have := ps_length _ _ _ h1
                    simp only [tailS_len] at this
                    omega
                  obtain ⟨c0, c1, c2, c3, z2, z3⟩ := F5.out.c0
                  have q0 := G5.out.2.1.cell 0
                  have q1 := G5.out.2.1.cell 1
                  have q2 := G5.out.2.1.cell 2
                  have q3 := G5.out.2.1.cell 3
                  simp only [List.getElem?_toArray, List.getElem?_cons_zero, List.getElem?_cons_succ] at q0 q1 q2 q3
                  have HS5 : Hid (tshape.Subs w5 (fun k => g + 2 ≤ k ∧ (Value.slice oa M cap).ownBlock ≠ some k) (.slice o n c) sub) := Lib.hid (h4.keep G5.out.2.2.size (fun k hk hq => ⟨by omega, fun e => by have := (HOB.out k e).2; omega⟩) fun k hk _ => G5.out.2.2.block k hk)
                  have HWF := Lib.hid h3
                  have hB5 : g + 2 ≤ w5.heap.size := F5.out.hB
                  have HOWN := Lib.hid F5.out.own
                  have hM1000 : M ≤ 1000 := by omega
                  clear h1 h3 h4 HRES
                  go_upto_region 40 with (at_builtin; refine append_tree (S := tshape) tt_slice hi hz0 hz1 hz2 rfl (by decide) tt_one rfl (.tmp 181) (.tmp 183) rfl (g + 2) (.slice oa M cap) L ⟨a, .slice o n c, sub⟩ w5 _ rfl rfl HOWN.out rfl (by have := HM.out; omega) (by decide) hB5 HWF.out HS5.out ?_; intro g2 cap2 w6 hown6 hb6 hsz6 hgr6; have hcc : w6.cell? ⟨g + 1, 2, none⟩ = some (.slice oa M cap) := (hb6.cell (p := ⟨g + 1, 2, none⟩) (show g + 1 < g + 2 by omega)).trans c2; have hfz : w6.frozen? ⟨g + 1, 2, none⟩ = false := (hb6.frozen (p := ⟨g + 1, 2, none⟩) (show g + 1 < g + 2 by omega)).trans z2)
                  have F7 := Lib.hid (F5.out.grown (by have := HM.out; omega) hown6 hb6 hsz6)
                  generalize w6.setCell ⟨g + 1, 2, none⟩ (.slice (some ⟨g2, 0, none⟩) (L.length + 1) cap2) = w7 at *
                  have HTR : Hid ((L ++ [(⟨a, .slice o n c, sub⟩ : Elt TL)]).map Elt.tree = L.map Elt.tree ++ [.node a sub]) := Lib.hid (by simp [Elt.tree])
                  have HLN : Hid ((L ++ [(⟨a, .slice o n c, sub⟩ : Elt TL)]).length = M + 1) := Lib.hid (by rw [List.length_append, HM.out]; rfl)
                  obtain ⟨L2, hL2⟩ : ∃ L2, L ++ [(⟨a, .slice o n c, sub⟩ : Elt TL)] = L2 := ⟨_, rfl⟩
                  rw [hL2] at HTR HLN F7
                  clear hcc hfz hown6 hb6 hsz6 hgr6 c0 c1 c2 c3 z2 z3 q0 q1 q2 q3 HOWN HS5 HWF hL2
                  go_wp2_with fail
                  have h3 := HLN.out
                  refine ⟨⟨f, p2, t + 1, _, L2, rfl, Lib.hid F7.out, by omega, Lib.hid (by rw [HST.out, HMK.out, Option.bind_some, HPS.out, Option.bind_some, HTR.out]), by omega, by omega, h2⟩, ?_⟩
                  simp only [intOf, Int.toNat_natCast]
                  omega
                · have HN : Hid (R = none) := Lib.hid (by rw [HST.out, HMK.out, Option.bind_some, h1]; rfl)
                  obtain ⟨⟨x0, r0⟩, ⟨x1, r1⟩, ⟨x2, r2⟩, ⟨x3, r3⟩, y0, y1, y2, y3⟩ := res_cells F5.out.res
                  clear h1 HRES
                  go_wp2_with fail
                  rw [put4_eq]
                  obtain ⟨e0, e1, e2, e3, hbl⟩ := res_end F5.out.bel F5.out.res (.int .i64 0) (.int .i64 0) (.slice none 0 0) (.int .i64 0)
                  refine bodyPost_ret (v := .tuple #[.agg #[.int .i64 0, .int .i64 0, .slice none 0 0, .int .i64 0], .int .i64 (-1)]) (by simp [results, Tryd.results24, go_sem, e0, e1, e2, e3]) rfl ?_
                  rw [← HP.out]
                  exact ⟨⟨0, 0, 0⟩, none, 0, 0, (-1), rfl, hg ▸ hbl, .inr ⟨HN.out, rfl⟩⟩
              · have d6 : decide (k + 1 < s.size) = false := decide_eq_false (by omega)
                have HMK' := Lib.hid (HMN.out (by rw [tailS_end (by omega)]; rfl))
                clear HMY HMN
                by_cases ht0 : 0 < t
                · have d7 : decide (0 < t) = true := decide_eq_true ht0
                  have HN : Hid (R = none) := Lib.hid (by rw [HST.out, HMK'.out, if_pos ht0]; rfl)
                  clear ht0
                  go_wp2_with fail
                  rw [put4_eq]
                  obtain ⟨e0, e1, e2, e3, hbl⟩ := res_end F.out.bel F.out.res (.int .i64 0) (.int .i64 0) (.slice none 0 0) (.int .i64 0)
                  refine bodyPost_ret (v := .tuple #[.agg #[.int .i64 0, .int .i64 0, .slice none 0 0, .int .i64 0], .int .i64 (-1)]) (by simp [results, Tryd.results24, go_sem, e0, e1, e2, e3]) rfl ?_
                  rw [← HP.out]
                  exact ⟨⟨0, 0, 0⟩, none, 0, 0, (-1), rfl, hg ▸ hbl, .inr ⟨HN.out, rfl⟩⟩
                · obtain rfl : t = 0 := by omega
                  have HMK : Hid (mark (tailS s (k + 1)) 0 = some (tailS s (k + 1), 0)) := Lib.hid (by rw [HMK'.out]; rfl)
                  have F3 := Lib.hid F.out
                  have ht1 : 0 ≤ M + 1 := by omega
                  have hp3 : k + 1 ≤ s.size := hqk
                  have hp4 : k ≤ k + 1 := hkk
                  clear ht0 HMK'
                  go_upto_region 36 with fail
                  generalize wr = w3 at *
                  clear c0 c1 c2 c3 z2 z3 x0 r0 x1 r1 x2 r2 x3 r3 y0 y1 y2 y3 F
                  have CR : Hid (Calls Tryd.prog 24 #[.string s, .int .i64 (((k : Int) + 1)), .int .i64 ((dep : Int) + 1)] w3 (PPost (ps D (tailS s (k + 1))) s w3)) := Lib.hid (IH.out (dep + 1) (k + 1) w3 (by have := HD.out; omega) hp3)
                  go_wp2_with fail
                  refine (CR.out).mono ?_
                  rintro e w4 ⟨a, o, n, c, z, rfl, hb4, hres⟩
                  have HB4 := Lib.hid hb4
                  have hz3 : g + 2 ≤ w3.heap.size := F3.out.hB
                  have hz4 : w3.heap.size ≤ w4.heap.size := hb4.size
                  have HOB := Lib.hid F3.out.own.block
                  have HA4 : Hid (∀ W, w4.alloc (.cells #[.int .i64 a.kind, .int .i64 a.size, .slice o n c, .int .i64 a.tail] TT) = W → PSt w g (.slice oa M cap) L (0) W ∧ Blk W w4.heap.size #[.int .i64 a.kind, .int .i64 a.size, .slice o n c, .int .i64 a.tail] TT ∧ Below w4.heap.size w4 W) := Lib.hid fun W h => by
                    subst h
                    have hal := (Below.refl w4.heap.size w4).alloc (Nat.le_refl _) (.cells #[.int .i64 a.kind, .int .i64 a.size, .slice o n c, .int .i64 a.tail] TT)
                    exact ⟨(F3.out.sub HB4.out).sub hal, Blk.new w4 _ _, hal⟩
                  have HRES := Lib.hid hres
                  clear hres hb4 CR
                  go_upto_region 37 with fail
                  generalize w4.alloc (.cells #[.int .i64 a.kind, .int .i64 a.size, .slice o n c, .int .i64 a.tail] TT) = w5 at *
                  have G5 := Lib.hid (HA4.out _ rfl)
                  have F5 := Lib.hid G5.out.1
                  clear HA4
                  rcases HRES.out with ⟨sub, p2, h1, rfl, h2, h3, h4⟩ | ⟨h1, rfl⟩
                  · have HPS := Lib.hid h1
                    have hgt : k + 1 < p2 := by
                      have := ps_length _ _ _ h1
                      simp only [tailS_len] at this
                      omega
                    exfalso
                    omega
                  · have HN : Hid (R = none) := Lib.hid (by rw [HST.out, HMK.out, Option.bind_some, h1]; rfl)
                    obtain ⟨⟨x0, r0⟩, ⟨x1, r1⟩, ⟨x2, r2⟩, ⟨x3, r3⟩, y0, y1, y2, y3⟩ := res_cells F5.out.res
                    clear h1 HRES
                    go_wp2_with fail
                    rw [put4_eq]
                    obtain ⟨e0, e1, e2, e3, hbl⟩ := res_end F5.out.bel F5.out.res (.int .i64 0) (.int .i64 0) (.slice none 0 0) (.int .i64 0)
                    refine bodyPost_ret (v := .tuple #[.agg #[.int .i64 0, .int .i64 0, .slice none 0 0, .int .i64 0], .int .i64 (-1)]) (by simp [results, Tryd.results24, go_sem, e0, e1, e2, e3]) rfl ?_
                    rw [← HP.out]
                    exact ⟨⟨0, 0, 0⟩, none, 0, 0, (-1), rfl, hg ▸ hbl, .inr ⟨HN.out, rfl⟩⟩
              · have d6 : decide (k + 1 < s.size) = true := decide_eq_true hl3
                have l3 : ((s[k + 1].toNat : Int) == 63) = false := by rw [beq_eq_false_iff_ne]; intro h'; exact h63.out (UInt8.toNat_inj.1 (by have : (63 : UInt8).toNat = 63 := rfl; omega))
                have HMK' := Lib.hid (HMN.out (by rw [tailS_lt hl3]; simp [nextIs, h63.out]))
                clear HMY HMN h63
                by_cases ht0 : 0 < t
                · have d7 : decide (0 < t) = true := decide_eq_true ht0
                  have HN : Hid (R = none) := Lib.hid (by rw [HST.out, HMK'.out, if_pos ht0]; rfl)
                  clear ht0
                  go_wp2_with fail
                  rw [put4_eq]
                  obtain ⟨e0, e1, e2, e3, hbl⟩ := res_end F.out.bel F.out.res (.int .i64 0) (.int .i64 0) (.slice none 0 0) (.int .i64 0)
                  refine bodyPost_ret (v := .tuple #[.agg #[.int .i64 0, .int .i64 0, .slice none 0 0, .int .i64 0], .int .i64 (-1)]) (by simp [results, Tryd.results24, go_sem, e0, e1, e2, e3]) rfl ?_
                  rw [← HP.out]
                  exact ⟨⟨0, 0, 0⟩, none, 0, 0, (-1), rfl, hg ▸ hbl, .inr ⟨HN.out, rfl⟩⟩
                · obtain rfl : t = 0 := by omega
                  have HMK : Hid (mark (tailS s (k + 1)) 0 = some (tailS s (k + 1), 0)) := Lib.hid (by rw [HMK'.out]; rfl)
                  have F3 := Lib.hid F.out
                  have ht1 : 0 ≤ M + 1 := by omega
                  have hp3 : k + 1 ≤ s.size := hqk
                  have hp4 : k ≤ k + 1 := hkk
                  clear ht0 HMK'
                  go_upto_region 36 with fail
                  generalize wr = w3 at *
                  clear c0 c1 c2 c3 z2 z3 x0 r0 x1 r1 x2 r2 x3 r3 y0 y1 y2 y3 F
                  have CR : Hid (Calls Tryd.prog 24 #[.string s, .int .i64 (((k : Int) + 1)), .int .i64 ((dep : Int) + 1)] w3 (PPost (ps D (tailS s (k + 1))) s w3)) := Lib.hid (IH.out (dep + 1) (k + 1) w3 (by have := HD.out; omega) hp3)
                  go_wp2_with fail
                  refine (CR.out).mono ?_
                  rintro e w4 ⟨a, o, n, c, z, rfl, hb4, hres⟩
                  have HB4 := Lib.hid hb4
                  have hz3 : g + 2 ≤ w3.heap.size := F3.out.hB
                  have hz4 : w3.heap.size ≤ w4.heap.size := hb4.size
                  have HOB := Lib.hid F3.out.own.block
                  have HA4 : Hid (∀ W, w4.alloc (.cells #[.int .i64 a.kind, .int .i64 a.size, .slice o n c, .int .i64 a.tail] TT) = W → PSt w g (.slice oa M cap) L (0) W ∧ Blk W w4.heap.size #[.int .i64 a.kind, .int .i64 a.size, .slice o n c, .int .i64 a.tail] TT ∧ Below w4.heap.size w4 W) := Lib.hid fun W h => by
                    subst h
                    have hal := (Below.refl w4.heap.size w4).alloc (Nat.le_refl _) (.cells #[.int .i64 a.kind, .int .i64 a.size, .slice o n c, .int .i64 a.tail] TT)
                    exact ⟨(F3.out.sub HB4.out).sub hal, Blk.new w4 _ _, hal⟩
                  have HRES := Lib.hid hres
                  clear hres hb4 CR
                  go_upto_region 37 with fail
                  generalize w4.alloc (.cells #[.int .i64 a.kind, .int .i64 a.size, .slice o n c, .int .i64 a.tail] TT) = w5 at *
                  have G5 := Lib.hid (HA4.out _ rfl)
                  have F5 := Lib.hid G5.out.1
                  clear HA4
                  rcases HRES.out with ⟨sub, p2, h1, rfl, h2, h3, h4⟩ | ⟨h1, rfl⟩
                  · have HPS := Lib.hid h1
                    have hgt : k + 1 < p2 := by
                      have := ps_length _ _ _ h1
                      simp only [tailS_len] at this
                      omega
                    obtain ⟨c0, c1, c2, c3, z2, z3⟩ := F5.out.c0
                    have q0 := G5.out.2.1.cell 0
                    have q1 := G5.out.2.1.cell 1
                    have q2 := G5.out.2.1.cell 2
                    have q3 := G5.out.2.1.cell 3
                    simp only [List.getElem?_toArray, List.getElem?_cons_zero, List.getElem?_cons_succ] at q0 q1 q2 q3
                    have HS5 : Hid (tshape.Subs w5 (fun k => g + 2 ≤ k ∧ (Value.slice oa M cap).ownBlock ≠ some k) (.slice o n c) sub) := Lib.hid (h4.keep G5.out.2.2.size (fun k hk hq => ⟨by omega, fun e => by have := (HOB.out k e).2; omega⟩) fun k hk _ => G5.out.2.2.block k hk)
                    have HWF := Lib.hid h3
                    have hB5 : g + 2 ≤ w5.heap.size := F5.out.hB
                    have HOWN := Lib.hid F5.out.own
                    have hM1000 : M ≤ 1000 := by omega
                    clear h1 h3 h4 HRES
                    go_upto_region 40 with (at_builtin; refine append_tree (S := tshape) tt_slice hi hz0 hz1 hz2 rfl (by decide) tt_one rfl (.tmp 181) (.tmp 183) rfl (g + 2) (.slice oa M cap) L ⟨a, .slice o n c, sub⟩ w5 _ rfl rfl HOWN.out rfl (by have := HM.out; omega) (by decide) hB5 HWF.out HS5.out ?_; intro g2 cap2 w6 hown6 hb6 hsz6 hgr6; have hcc : w6.cell? ⟨g + 1, 2, none⟩ = some (.slice oa M cap) := (hb6.cell (p := ⟨g + 1, 2, none⟩) (show g + 1 < g + 2 by omega)).trans c2; have hfz : w6.frozen? ⟨g + 1, 2, none⟩ = false := (hb6.frozen (p := ⟨g + 1, 2, none⟩) (show g + 1 < g + 2 by omega)).trans z2)
                    have F7 := Lib.hid (F5.out.grown (by have := HM.out; omega) hown6 hb6 hsz6)
                    generalize w6.setCell ⟨g + 1, 2, none⟩ (.slice (some ⟨g2, 0, none⟩) (L.length + 1) cap2) = w7 at *
                    have HTR : Hid ((L ++ [(⟨a, .slice o n c, sub⟩ : Elt TL)]).map Elt.tree = L.map Elt.tree ++ [.node a sub]) := Lib.hid (by simp [Elt.tree])
                    have HLN : Hid ((L ++ [(⟨a, .slice o n c, sub⟩ : Elt TL)]).length = M + 1) := Lib.hid (by rw [List.length_append, HM.out]; rfl)
                    obtain ⟨L2, hL2⟩ : ∃ L2, L ++ [(⟨a, .slice o n c, sub⟩ : Elt TL)] = L2 := ⟨_, rfl⟩
                    rw [hL2] at HTR HLN F7
                    clear hcc hfz hown6 hb6 hsz6 hgr6 c0 c1 c2 c3 z2 z3 q0 q1 q2 q3 HOWN HS5 HWF hL2
                    go_wp2_with fail
                    have h3 := HLN.out
                    refine ⟨⟨f, p2, 0, _, L2, rfl, Lib.hid F7.out, by omega, Lib.hid (by rw [HST.out, HMK.out, Option.bind_some, HPS.out, Option.bind_some, HTR.out]), by omega, by omega, h2⟩, ?_⟩
                    simp only [intOf, Int.toNat_natCast]
                    omega
                  · have HN : Hid (R = none) := Lib.hid (by rw [HST.out, HMK.out, Option.bind_some, h1]; rfl)
                    obtain ⟨⟨x0, r0⟩, ⟨x1, r1⟩, ⟨x2, r2⟩, ⟨x3, r3⟩, y0, y1, y2, y3⟩ := res_cells F5.out.res
                    clear h1 HRES
                    go_wp2_with fail
                    rw [put4_eq]
                    obtain ⟨e0, e1, e2, e3, hbl⟩ := res_end F5.out.bel F5.out.res (.int .i64 0) (.int .i64 0) (.slice none 0 0) (.int .i64 0)
                    refine bodyPost_ret (v := .tuple #[.agg #[.int .i64 0, .int .i64 0, .slice none 0 0, .int .i64 0], .int .i64 (-1)]) (by simp [results, Tryd.results24, go_sem, e0, e1, e2, e3]) rfl ?_
                    rw [← HP.out]
                    exact ⟨⟨0, 0, 0⟩, none, 0, 0, (-1), rfl, hg ▸ hbl, .inr ⟨HN.out, rfl⟩⟩
            · have l2 : ((s[k].toNat : Int) != 44) = true := by rw [bne_iff_ne]; intro h'; exact h44 (UInt8.toNat_inj.1 (by have : (44 : UInt8).toNat = 44 := rfl; omega))
              have HN : Hid (R = none) := Lib.hid (by rw [HRr.out, HTL.out, pf_comma HNE.out hne h44])
              clear HRr h0 h44 hne
              go_wp2_with fail
              rw [put4_eq]
              obtain ⟨e0, e1, e2, e3, hbl⟩ := res_end F.out.bel F.out.res (.int .i64 0) (.int .i64 0) (.slice none 0 0) (.int .i64 0)
              refine bodyPost_ret (v := .tuple #[.agg #[.int .i64 0, .int .i64 0, .slice none 0 0, .int .i64 0], .int .i64 (-1)]) (by simp [results, Tryd.results24, go_sem, e0, e1, e2, e3]) rfl ?_
              rw [← HP.out]
              exact ⟨⟨0, 0, 0⟩, none, 0, 0, (-1), rfl, hg ▸ hbl, .inr ⟨HN.out, rfl⟩⟩
      · have l0 : ((s[p].toNat : Int) != 123) = true := by
          have := hkn.out 123 h123
          exact this
        have HU := Lib.hid HRS.out
        rw [if_neg h123] at HU
        clear h123 HRS hk hkn CD'
        go_wp2_with fail
        rw [put4_eq]
        obtain ⟨e0, e1, e2, e3, hbl⟩ := res_end G.out.1 G.out.2.1 (.int .i64 0) (.int .i64 0) (.slice none 0 0) (.int .i64 0)
        refine bodyPost_ret (v := .tuple #[.agg #[.int .i64 0, .int .i64 0, .slice none 0 0, .int .i64 0], .int .i64 (-1)]) (by simp [results, Tryd.results24, go_sem, e0, e1, e2, e3]) rfl ?_
        rw [← HP.out]
        exact ⟨⟨0, 0, 0⟩, none, 0, 0, (-1), rfl, hg ▸ hbl, .inr ⟨HU.out, rfl⟩⟩
end Go.Proofs.YtopfpfpefljkkaaDoor

