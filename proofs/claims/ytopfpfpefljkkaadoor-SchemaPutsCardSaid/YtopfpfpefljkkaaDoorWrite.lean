/- Package schema: write, Put. -/
import Derived.Test.YtopfpfpefljkkaaDoorTypeMay
import Derived.Test.YtopfpfpefljkkaaDoorSchPut
import Derived.Test.YtopfpfpefljkkaaDoorBuilderT
import Derived.Shelf.Strconv.Itoa3
import Derived.Lib.AppendIntMem
namespace Go.Proofs.YtopfpfpefljkkaaDoor
open Go.RowKit Go.Shelf
set_option linter.unusedVariables false
set_option linter.unusedSimpArgs false

/-- The table that Itoa wants. -/
def TabS (w : World) : Prop := Lib.TabIs Tryd.prog w "internal/strconv.uint64pow10" .u64 Lib.pow10Tab
theorem TabS.lt {w : World} (h : TabS w) : 1 < w.heap.size := by
  rcases Nat.lt_or_ge 1 w.heap.size with h' | h'
  · exact h'
  · have := Lib.TabIs.cell h (g := 1) (by kernel_rfl) 0 (by decide)
    simp [World.cell?, Array.getElem?_eq_none h'] at this
theorem TabS.below {w w' : World} {B : Nat} (h : TabS w) (hb : Below B w w') (hB : 1 < B) : TabS w' := by
  unfold TabS Lib.TabIs at h ⊢
  rw [← h]
  unfold World.var?
  rw [show Tryd.prog.globalNamed "internal/strconv.uint64pow10" = some 1 by kernel_rfl]
  simp only [Option.bind_some]
  rw [hb.block _ hB]
theorem decDigits_eq (n : Nat) : Lib.decDigits n = decN n := by
  induction n using Nat.strongRecOn with
  | _ n ih =>
    by_cases h : n < 10
    · rw [decN_lt h, Lib.decDigits, dif_pos h]
    · rw [decN_ge (by omega), Lib.decDigits, dif_neg h, ih (n / 10) (by omega)]
theorem prog_itoa (n : Nat) (hn : n ≤ 100000000) (w : World) (hT : TabS w) : Calls Tryd.prog 38 #[.int .i64 (n : Int)] w fun e w' => e = .returned (.string ⟨(decN n).toArray⟩) ∧ Below w.heap.size w w' :=
  (Tryd.strconv_Itoa (n : Int) (by omega) (by omega) w hT).mono fun e w' ⟨he, k, os, hw⟩ => ⟨by rw [he]; simp [Lib.itoa, decDigits_eq], by rw [hw]; exact Lib.below_grow _ w (Nat.le_refl _) k os⟩
theorem catL (a l : List UInt8) : ((⟨a.toArray⟩ : ByteArray) ++ ⟨l.toArray⟩) = ⟨(a ++ l).toArray⟩ := by
  apply ByteArray.ext
  simp
theorem decN_len (n : Nat) (hn : n ≤ 100000000) : (decN n).length ≤ 9 := by
  have key : ∀ k n : Nat, n < 10 ^ (k + 1) → (decN n).length ≤ k + 1 := by
    intro k
    induction k with
    | zero => intro n h; rw [decN_lt (by simpa using h)]; simp
    | succ k ih =>
      intro n h
      by_cases c : n < 10
      · rw [decN_lt c]; simp
      · rw [decN_ge (by omega), List.length_append]
        have := ih (n / 10) (by rw [Nat.pow_succ] at h; omega)
        simp; omega
  exact key 8 n (by omega)
def BD (B b : Nat) (l : List UInt8) (w : World) : Prop := Lib.BuilderAt 47 5 B b (.pointer (some ⟨b, 0, none⟩)) (Lib.byteCells l) w
def BF (B b : Nat) (l : List UInt8) (w : World) : Prop := Lib.IsBuilder 47 5 B b (Lib.byteCells l) w
theorem BD.is {B b : Nat} {l : List UInt8} {w : World} (h : BD B b l w) : BF B b l w := .inr h
theorem w_string (B b : Nat) (l m : List UInt8) (w : World) (h : BF B b l w) (hlen : l.length + m.length ≤ 1000000) (hB : B ≤ w.heap.size) :
    Calls Tryd.prog 37 #[.pointer (some ⟨b, 0, none⟩), .string ⟨m.toArray⟩] w fun e w' => (∃ v, e = .returned v) ∧ BD B b (l ++ m) w' ∧ Below B w w' ∧ KT w w' := by
  have hl : (Lib.byteCells l).length = l.length := by simp [Lib.byteCells]
  refine (writeStringT B b (Lib.byteCells l) ⟨m.toArray⟩ w h (by rw [hl]; have : (⟨m.toArray⟩ : ByteArray).size = m.length := List.size_toArray; omega) hB).mono fun e w' ⟨h1, h2, h3, h4⟩ => ⟨⟨_, h1⟩, ?_, h3, h4⟩
  unfold BD
  rw [byteCells_app]; exact h2
theorem w_byte (B b : Nat) (l : List UInt8) (c : UInt8) (w : World) (h : BF B b l w) (hlen : l.length + 1 ≤ 1000000) (hB : B ≤ w.heap.size) :
    Calls Tryd.prog 39 #[.pointer (some ⟨b, 0, none⟩), .int .u8 (c.toNat : Int)] w fun e w' => (∃ v, e = .returned v) ∧ BD B b (l ++ [c]) w' ∧ Below B w w' ∧ KT w w' := by
  have hl : (Lib.byteCells l).length = l.length := by simp [Lib.byteCells]
  refine (writeByteT B b (Lib.byteCells l) (c.toNat : Int) w h (by rw [hl]; omega) hB).mono fun e w' ⟨h1, h2, h3, h4⟩ => ⟨⟨_, h1⟩, ?_, h3, h4⟩
  unfold BD
  rw [byteCells_app]; exact h2
theorem BA.below {T e : TypeId} {B b : Nat} {p : Value} {bs : List Value} {w w' : World} (h : Lib.BuilderAt T e B b p bs w) (hb : Below w.heap.size w w') : Lib.BuilderAt T e B b p bs w' := by
  obtain ⟨h1, v, h2, h3, h4⟩ := h
  refine ⟨h1, v, by rw [hb.block b (Array.getElem?_eq_some_iff.1 h2).1]; exact h2, ?_, h4⟩
  obtain ⟨g1, g2⟩ := h3
  refine ⟨g1, ?_⟩
  rcases g2 with g2 | ⟨g, cap, cur, hv, hg, hh, r⟩
  · exact .inl g2
  · refine .inr ⟨g, cap, cur, hv, hg, ?_, r⟩
    rw [hb.block g (Array.getElem?_eq_some_iff.1 hh).1]; exact hh
theorem BF.below {B b : Nat} {l : List UInt8} {w w' : World} (h : BF B b l w) (hb : Below w.heap.size w w') : BF B b l w' := by
  rcases h with h | h
  · exact .inl (BA.below h hb)
  · exact .inr (BA.below h hb)
theorem BD.below {B b : Nat} {l : List UInt8} {w w' : World} (h : BD B b l w) (hb : Below w.heap.size w w') : BD B b l w' := BA.below h hb
/-- Trees ahead of a block number. -/
abbrev TBel (B : Nat) (w : World) (v : Value) (s : List (Rose TL)) : Prop := tshape.Subs w (fun k => k < B) v s
theorem TBel.below {B : Nat} {w w' : World} {v : Value} {s : List (Rose TL)} (h : TBel B w v s) (hb : Below B w w') : TBel B w' v s := h.keep hb.size (fun _ _ h => h) fun k _ hk => hb.block k hk
theorem TBel.at_ {B : Nat} {w : World} {oa : Option Addr} {n cap : Nat} {s : List (Rose TL)} (h : TBel B w (.slice oa n cap) s) {i : Nat} {x : Rose TL} (hx : s[i]? = some x) :
    ∃ b off u, oa = some ⟨b, off, none⟩ ∧ b < w.heap.size ∧ b < B ∧ w.cell? ⟨b, off + i * 4, none⟩ = some (.int .i64 x.lab.kind) ∧ w.cell? ⟨b, off + i * 4 + 1, none⟩ = some (.int .i64 x.lab.size) ∧
      w.cell? ⟨b, off + i * 4 + 2, none⟩ = some u ∧ w.cell? ⟨b, off + i * 4 + 3, none⟩ = some (.int .i64 x.lab.tail) ∧ TBel B w u x.sub ∧ TL.wf x.lab := by
  obtain ⟨oa', cap', hv, h1, h2, h3⟩ := Shape.Subs.get h
  cases hv
  obtain ⟨b, off, u, e, hb, hq, ho, hc, hs⟩ := h3 i x hx
  exact ⟨b, off, u, e, hb, hq, by simpa [tshape, Nat.add_assoc] using hc 0 (by decide), by simpa [tshape, Nat.add_assoc] using hc 1 (by decide), by simpa [tshape, Nat.add_assoc] using hc 2 (by decide), by simpa [tshape, Nat.add_assoc] using hc 3 (by decide), hs, ho⟩
/-- What write leaves. -/
def WPost (B b : Nat) (t : List UInt8) (w : World) (e : Ending) (w' : World) : Prop := e = .returned (.tuple #[]) ∧ BD B b t w' ∧ Below B w w' ∧ KT w w'

/-- What is put of the elements from a place on. -/
theorem putL_step (first : Bool) (t : Nat) (s : List (Rose TL)) (k : Nat) (y : Rose TL) (hy : s[k]? = some y) :
    putL first t (s.drop k) = (if first then [] else [44]) ++ ((if s.length - k ≤ t then [63] else []) ++ (put y ++ putL false t (s.drop (k + 1)))) := by
  obtain ⟨hk, hk2⟩ := List.getElem?_eq_some_iff.1 hy
  rw [List.drop_eq_getElem_cons hk, hk2]
  simp only [putL, List.length_drop]
  rw [show s.length - (k + 1) + 1 = s.length - k by omega]

set_option maxRecDepth 100000 in
set_option maxHeartbeats 4000000 in
theorem prog_write (B b : Nat) (hB1 : 1 < B) (x : Rose TL) : ∀ (w : World) (v : Value) (l : List UInt8), TBel B w v x.sub → BF B b l w → TabS w → x.all right1 = true → l.length + (put x).length ≤ 1000000 → B ≤ w.heap.size → b < w.heap.size →
    Calls Tryd.prog 25 #[.pointer (some ⟨b, 0, none⟩), .agg #[.int .i64 x.lab.kind, .int .i64 x.lab.size, v, .int .i64 x.lab.tail]] w (WPost B b (l ++ put x) w) := by
  induction x using Rose.ind with
  | h a s ih =>
    intro w v l hv hbf hT hr hlen hBw hbw
    obtain ⟨kind, size, tail⟩ := a
    simp only [Rose.sub_node, Rose.lab_node] at hv ⊢
    obtain ⟨oa, cap, hve, hcap, hml⟩ : ∃ oa cap, v = .slice oa s.length cap ∧ s.length ≤ cap ∧ cap ≤ maxLen := by
      obtain ⟨oa, cap, h1, h2, h3, _⟩ := hv
      exact ⟨oa, cap, h1, h2, h3⟩
    obtain ⟨g, hg⟩ : ∃ g, w.heap.size = g := ⟨_, rfl⟩
    have HA : Hid (∀ W, w.alloc (.cells #[.int .i64 kind, .int .i64 size, v, .int .i64 tail] 24) = W → Below B w W ∧ TBel B W v s ∧ BF B b l W ∧ TabS W ∧ W.heap.size = g + 1 ∧ Blk W g #[.int .i64 kind, .int .i64 size, v, .int .i64 tail] 24 ∧ KT w W) := Lib.hid fun W h => by
      subst h
      have hal := (Below.refl w.heap.size w).alloc (Nat.le_refl _) (.cells #[.int .i64 kind, .int .i64 size, v, .int .i64 tail] 24)
      exact ⟨hal.mono hBw, hv.below (hal.mono hBw), hbf.below hal, hT.below hal (by omega), by simp; omega, hg ▸ Blk.new w _ _, KT.of hal⟩
    have hr' := hr
    simp only [Rose.all, Bool.and_eq_true, right1, rightK, decide_eq_true_eq] at hr'
    obtain ⟨hr0, hrL⟩ := hr'
    have HRL := Lib.hid hrL
    have HIH := Lib.hid ih
    have hgB : B ≤ g := by omega
    have hbg : b < g := by omega
    clear hv hbf hT hr hrL ih hbw hBw
    rcases hr0 with ⟨rfl, h2, h3, rfl⟩ | ⟨rfl, h2, h2', h3, rfl⟩ | ⟨rfl, h2, h2', h3, rfl⟩ | ⟨rfl, h2, h2', h3, rfl⟩ | ⟨rfl, rfl, h3, h4, h5⟩
    · obtain ⟨sz, rfl⟩ : ∃ sz : Nat, size = sz := ⟨size.toNat, by omega⟩
      have hsz : sz ≤ 65536 := by omega
      obtain rfl : s = [] := List.length_eq_zero_iff.1 h3
      obtain ⟨n, hn⟩ : ∃ n, 8 * sz = n := ⟨_, rfl⟩
      have hput : put (.node ⟨1, (sz : Int), 0⟩ []) = 117 :: decN n := by
        simp only [put, if_true]
        all_goals (congr 2; try omega)
      rw [hput] at hlen ⊢
      have HI : Hid (((n : Nat) : Int) = 8 * (sz : Int)) := Lib.hid (by omega)
      have hn2 : n ≤ 1000000 := by omega
      have hdl := decN_len n (by omega)
      have hsb : (⟨(decN n).toArray⟩ : ByteArray).size ≤ 9 := by have : (⟨(decN n).toArray⟩ : ByteArray).size = (decN n).length := List.size_toArray; omega
      have hll : l.length + (117 :: decN n).length ≤ 1000000 := hlen
      have HC : Hid ((⟨#[117]⟩ : ByteArray) ++ ⟨(decN n).toArray⟩ = ⟨((117 : UInt8) :: decN n).toArray⟩) := Lib.hid (catL [117] (decN n))
      clear h2 h3 hput hn hlen HIH HRL hve hcap hml
      go_enter Tryd.func25, Tryd.ntmps25
      go_upto_region 1 with fail
      generalize w.alloc (.cells #[.int .i64 1, .int .i64 (sz : Int), v, .int .i64 0] 24) = w1 at *
      obtain ⟨hb1, hv1, hbf1, hT1, hz1, hB, hkt1⟩ := HA.out _ rfl
      have HKT1 := Lib.hid hkt1
      clear hkt1
      have c0 := hB.cell 0
      have c1 := hB.cell 1
      have c2 := hB.cell 2
      have c3 := hB.cell 3
      simp only [List.getElem?_toArray, List.getElem?_cons_zero, List.getElem?_cons_succ] at c0 c1 c2 c3
      have CI : Hid (Calls Tryd.prog 38 #[.int .i64 (8 * (sz : Int))] w1 fun e w' => e = .returned (.string ⟨(decN n).toArray⟩) ∧ Below w1.heap.size w1 w') := Lib.hid (by rw [← HI.out]; exact prog_itoa n (by omega) w1 hT1)
      have H1 := Lib.hid (And.intro hb1 hbf1)
      have hz1' : B ≤ w1.heap.size := by omega
      clear hb1 hv1 hbf1 hT1 HA hB
      go_wp2_with fail
      refine (CI.out).mono ?_
      rintro e w2 ⟨rfl, hb2⟩
      have CW : Hid (Calls Tryd.prog 37 #[.pointer (some ⟨b, 0, none⟩), .string ((⟨#[117]⟩ : ByteArray) ++ ⟨(decN n).toArray⟩)] w2 fun e w' => (∃ v, e = .returned v) ∧ BD B b (l ++ (117 :: decN n)) w' ∧ Below B w2 w' ∧ KT w2 w') := Lib.hid (by
        rw [HC.out]; exact w_string B b l (117 :: decN n) w2 (H1.out.2.below hb2) hll (by have := hb2.size; omega))
      have H2 := Lib.hid (H1.out.1.trans (hb2.mono hz1'))
      have HKT2 := Lib.hid (HKT1.out.trans (KT.of hb2))
      clear hb2 c0 c1 c2 c3
      go_wp2_with fail
      refine (CW.out).mono ?_
      rintro e w3 ⟨⟨r, rfl⟩, hbd, hb3, hkt3⟩
      have H3 := Lib.hid (And.intro hbd (And.intro (H2.out.trans hb3) (HKT2.out.trans hkt3)))
      clear hbd hb3 hkt3
      go_wp2_with fail
      go_end0
      exact ⟨rfl, H3.out.1, H3.out.2.1, H3.out.2.2⟩
    · obtain ⟨sz, rfl⟩ : ∃ sz : Nat, size = sz := ⟨size.toNat, by omega⟩
      have hsz : sz ≤ 65536 := by omega
      obtain rfl : s = [] := List.length_eq_zero_iff.1 h3
      obtain ⟨n, hn⟩ : ∃ n, sz = n := ⟨_, rfl⟩
      have hput : put (.node ⟨2, (sz : Int), 0⟩ []) = 98 :: decN n := by
        simp only [put, if_true, if_neg (show (2 : Int) ≠ 1 by decide)]
        all_goals (congr 2; try omega)
      rw [hput] at hlen ⊢
      have HI : Hid (((n : Nat) : Int) = (sz : Int)) := Lib.hid (by omega)
      have hn2 : n ≤ 1000000 := by omega
      have hdl := decN_len n (by omega)
      have hsb : (⟨(decN n).toArray⟩ : ByteArray).size ≤ 9 := by have : (⟨(decN n).toArray⟩ : ByteArray).size = (decN n).length := List.size_toArray; omega
      have hll : l.length + (98 :: decN n).length ≤ 1000000 := hlen
      have HC : Hid ((⟨#[98]⟩ : ByteArray) ++ ⟨(decN n).toArray⟩ = ⟨((98 : UInt8) :: decN n).toArray⟩) := Lib.hid (catL [98] (decN n))
      clear h2 h3 hput hn hlen HIH HRL hve hcap hml
      go_enter Tryd.func25, Tryd.ntmps25
      go_upto_region 1 with fail
      generalize w.alloc (.cells #[.int .i64 2, .int .i64 (sz : Int), v, .int .i64 0] 24) = w1 at *
      obtain ⟨hb1, hv1, hbf1, hT1, hz1, hB, hkt1⟩ := HA.out _ rfl
      have HKT1 := Lib.hid hkt1
      clear hkt1
      have c0 := hB.cell 0
      have c1 := hB.cell 1
      have c2 := hB.cell 2
      have c3 := hB.cell 3
      simp only [List.getElem?_toArray, List.getElem?_cons_zero, List.getElem?_cons_succ] at c0 c1 c2 c3
      have CI : Hid (Calls Tryd.prog 38 #[.int .i64 ((sz : Int))] w1 fun e w' => e = .returned (.string ⟨(decN n).toArray⟩) ∧ Below w1.heap.size w1 w') := Lib.hid (by rw [← HI.out]; exact prog_itoa n (by omega) w1 hT1)
      have H1 := Lib.hid (And.intro hb1 hbf1)
      have hz1' : B ≤ w1.heap.size := by omega
      clear hb1 hv1 hbf1 hT1 HA hB
      go_wp2_with fail
      refine (CI.out).mono ?_
      rintro e w2 ⟨rfl, hb2⟩
      have CW : Hid (Calls Tryd.prog 37 #[.pointer (some ⟨b, 0, none⟩), .string ((⟨#[98]⟩ : ByteArray) ++ ⟨(decN n).toArray⟩)] w2 fun e w' => (∃ v, e = .returned v) ∧ BD B b (l ++ (98 :: decN n)) w' ∧ Below B w2 w' ∧ KT w2 w') := Lib.hid (by
        rw [HC.out]; exact w_string B b l (98 :: decN n) w2 (H1.out.2.below hb2) hll (by have := hb2.size; omega))
      have H2 := Lib.hid (H1.out.1.trans (hb2.mono hz1'))
      have HKT2 := Lib.hid (HKT1.out.trans (KT.of hb2))
      clear hb2 c0 c1 c2 c3
      go_wp2_with fail
      refine (CW.out).mono ?_
      rintro e w3 ⟨⟨r, rfl⟩, hbd, hb3, hkt3⟩
      have H3 := Lib.hid (And.intro hbd (And.intro (H2.out.trans hb3) (HKT2.out.trans hkt3)))
      clear hbd hb3 hkt3
      go_wp2_with fail
      go_end0
      exact ⟨rfl, H3.out.1, H3.out.2.1, H3.out.2.2⟩
    · obtain ⟨sz, rfl⟩ : ∃ sz : Nat, size = sz := ⟨size.toNat, by omega⟩
      have hsz : sz ≤ 65536 := by omega
      obtain rfl : s = [] := List.length_eq_zero_iff.1 h3
      obtain ⟨n, hn⟩ : ∃ n, sz = n := ⟨_, rfl⟩
      have hput : put (.node ⟨3, (sz : Int), 0⟩ []) = 115 :: decN n := by
        simp only [put, if_true, if_neg (show (3 : Int) ≠ 1 by decide), if_neg (show (3 : Int) ≠ 2 by decide)]
        all_goals (congr 2; try omega)
      rw [hput] at hlen ⊢
      have HI : Hid (((n : Nat) : Int) = (sz : Int)) := Lib.hid (by omega)
      have hn2 : n ≤ 1000000 := by omega
      have hdl := decN_len n (by omega)
      have hsb : (⟨(decN n).toArray⟩ : ByteArray).size ≤ 9 := by have : (⟨(decN n).toArray⟩ : ByteArray).size = (decN n).length := List.size_toArray; omega
      have hll : l.length + (115 :: decN n).length ≤ 1000000 := hlen
      have HC : Hid ((⟨#[115]⟩ : ByteArray) ++ ⟨(decN n).toArray⟩ = ⟨((115 : UInt8) :: decN n).toArray⟩) := Lib.hid (catL [115] (decN n))
      clear h2 h3 hput hn hlen HIH HRL hve hcap hml
      go_enter Tryd.func25, Tryd.ntmps25
      go_upto_region 1 with fail
      generalize w.alloc (.cells #[.int .i64 3, .int .i64 (sz : Int), v, .int .i64 0] 24) = w1 at *
      obtain ⟨hb1, hv1, hbf1, hT1, hz1, hB, hkt1⟩ := HA.out _ rfl
      have HKT1 := Lib.hid hkt1
      clear hkt1
      have c0 := hB.cell 0
      have c1 := hB.cell 1
      have c2 := hB.cell 2
      have c3 := hB.cell 3
      simp only [List.getElem?_toArray, List.getElem?_cons_zero, List.getElem?_cons_succ] at c0 c1 c2 c3
      have CI : Hid (Calls Tryd.prog 38 #[.int .i64 ((sz : Int))] w1 fun e w' => e = .returned (.string ⟨(decN n).toArray⟩) ∧ Below w1.heap.size w1 w') := Lib.hid (by rw [← HI.out]; exact prog_itoa n (by omega) w1 hT1)
      have H1 := Lib.hid (And.intro hb1 hbf1)
      have hz1' : B ≤ w1.heap.size := by omega
      clear hb1 hv1 hbf1 hT1 HA hB
      go_wp2_with fail
      refine (CI.out).mono ?_
      rintro e w2 ⟨rfl, hb2⟩
      have CW : Hid (Calls Tryd.prog 37 #[.pointer (some ⟨b, 0, none⟩), .string ((⟨#[115]⟩ : ByteArray) ++ ⟨(decN n).toArray⟩)] w2 fun e w' => (∃ v, e = .returned v) ∧ BD B b (l ++ (115 :: decN n)) w' ∧ Below B w2 w' ∧ KT w2 w') := Lib.hid (by
        rw [HC.out]; exact w_string B b l (115 :: decN n) w2 (H1.out.2.below hb2) hll (by have := hb2.size; omega))
      have H2 := Lib.hid (H1.out.1.trans (hb2.mono hz1'))
      have HKT2 := Lib.hid (HKT1.out.trans (KT.of hb2))
      clear hb2 c0 c1 c2 c3
      go_wp2_with fail
      refine (CW.out).mono ?_
      rintro e w3 ⟨⟨r, rfl⟩, hbd, hb3, hkt3⟩
      have H3 := Lib.hid (And.intro hbd (And.intro (H2.out.trans hb3) (HKT2.out.trans hkt3)))
      clear hbd hb3 hkt3
      go_wp2_with fail
      go_end0
      exact ⟨rfl, H3.out.1, H3.out.2.1, H3.out.2.2⟩
    · obtain ⟨sz, rfl⟩ : ∃ sz : Nat, size = sz := ⟨size.toNat, by omega⟩
      have hsz : sz ≤ 65536 := by omega
      obtain ⟨y, rfl⟩ : ∃ y, s = [y] := List.length_eq_one_iff.1 h3
      have hput : put (.node ⟨4, (sz : Int), 0⟩ [y]) = 91 :: (put y ++ 58 :: (decN sz ++ [93])) := by
        simp [put, putL]
      rw [hput] at hlen ⊢
      have hdl := decN_len sz (by omega)
      have hsb : (⟨(decN sz).toArray⟩ : ByteArray).size ≤ 9 := by have : (⟨(decN sz).toArray⟩ : ByteArray).size = (decN sz).length := List.size_toArray; omega
      have hlen' : l.length + (1 + ((put y).length + (1 + ((decN sz).length + 1)))) ≤ 1000000 := by simp at hlen; omega
      have HC : Hid ((⟨#[58]⟩ : ByteArray) ++ ⟨(decN sz).toArray⟩ ++ ⟨#[93]⟩ = ⟨((58 : UInt8) :: (decN sz ++ [93])).toArray⟩) := Lib.hid (by
        have h1 := catL [58] (decN sz)
        have h2 := catL ([58] ++ decN sz) [93]
        rw [← h1] at h2
        simpa using h2)
      have hyr : y.all right1 = true := by
        have := HRL.out
        simp only [Rose.allL, Bool.and_eq_true] at this
        exact this.1
      have CY := Lib.hid (HIH.out y (by simp))
      have HYR := Lib.hid hyr
      have HV := Lib.hid hve
      simp only [List.length_cons, List.length_nil] at hve
      subst hve
      clear h2 h2' h3 hput hlen HIH HRL hcap hml hyr
      go_enter Tryd.func25, Tryd.ntmps25
      go_upto_region 1 with fail
      generalize w.alloc (.cells #[.int .i64 4, .int .i64 (sz : Int), .slice oa (0 + 1) cap, .int .i64 0] 24) = w1 at *
      obtain ⟨hb1, hv1, hbf1, hT1, hz1, hB, hkt1⟩ := HA.out _ rfl
      have HKT1 := Lib.hid hkt1
      clear hkt1
      have c0 := hB.cell 0
      have c1 := hB.cell 1
      have c2 := hB.cell 2
      have c3 := hB.cell 3
      simp only [List.getElem?_toArray, List.getElem?_cons_zero, List.getElem?_cons_succ] at c0 c1 c2 c3
      have CB1 : Hid (Calls Tryd.prog 39 #[.pointer (some ⟨b, 0, none⟩), .int .u8 91] w1 fun e w' => (∃ v, e = .returned v) ∧ BD B b (l ++ [91]) w' ∧ Below B w1 w' ∧ KT w1 w') := Lib.hid (w_byte B b l 91 w1 hbf1 (by omega) (by omega))
      have H1 := Lib.hid (And.intro hb1 (And.intro hv1 hT1))
      have HBk := Lib.hid hB
      have hz1' : B ≤ w1.heap.size := by omega
      clear hb1 hv1 hbf1 hT1 HA hB
      go_wp2_with fail
      refine (CB1.out).mono ?_
      rintro e w2 ⟨⟨r, rfl⟩, hbd2, hb2, hkt2⟩
      have hB2 : Blk w2 g #[.int .i64 4, .int .i64 (sz : Int), .slice oa (0 + 1) cap, .int .i64 0] 24 := hkt2 g _ _ HBk.out
      have HBk2 := Lib.hid hB2
      have hv2 := TBel.below H1.out.2.1 hb2
      obtain ⟨bb, off, u, rfl, hlt, hbB, y0, y1, y2, y3, hu, hwf⟩ := TBel.at_ hv2 (i := 0) (x := y) rfl
      simp only [Nat.zero_mul, Nat.add_zero] at y0 y1 y2 y3
      have d2 := hB2.cell 2
      simp only [List.getElem?_toArray, List.getElem?_cons_zero, List.getElem?_cons_succ] at d2
      have CW2 := Lib.hid (CY.out w2 u (l ++ [91]) hu hbd2.is (H1.out.2.2.below hb2 hB1) HYR.out (by simp; omega) (by have := hb2.size; omega) (by have := hb2.size; omega))
      have H2 := Lib.hid (And.intro (H1.out.1.trans hb2) (And.intro (H1.out.2.2.below hb2 hB1) (HKT1.out.trans hkt2)))
      have hz2 : B ≤ w2.heap.size := by have := hb2.size; omega
      have hz2g : g < w2.heap.size := by have := hb2.size; omega
      clear hbd2 hb2 hkt2 hB2 hv2 hu hwf c0 c1 c2 c3 CB1
      go_wp2_with fail
      refine (CW2.out).mono ?_
      rintro e w3 ⟨rfl, hbd3, hb3, hkt3⟩
      have hB3 : Blk w3 g #[.int .i64 4, .int .i64 (sz : Int), .slice (some ⟨bb, off, none⟩) (0 + 1) cap, .int .i64 0] 24 := hkt3 g _ _ HBk2.out
      have f1 := hB3.cell 1
      simp only [List.getElem?_toArray, List.getElem?_cons_zero, List.getElem?_cons_succ] at f1
      have CI : Hid (Calls Tryd.prog 38 #[.int .i64 (sz : Int)] w3 fun e w' => e = .returned (.string ⟨(decN sz).toArray⟩) ∧ Below w3.heap.size w3 w') := Lib.hid (prog_itoa sz (by omega) w3 (H2.out.2.1.below hb3 hB1))
      have H3 := Lib.hid (And.intro (H2.out.1.trans hb3) (And.intro hbd3 (H2.out.2.2.trans hkt3)))
      have hz3 : B ≤ w3.heap.size := by have := hb3.size; omega
      clear hbd3 hb3 hkt3 hB3 y0 y1 y2 y3 d2 CW2
      go_wp2_with fail
      refine (CI.out).mono ?_
      rintro e w4 ⟨rfl, hb4⟩
      have CW : Hid (Calls Tryd.prog 37 #[.pointer (some ⟨b, 0, none⟩), .string ((⟨#[58]⟩ : ByteArray) ++ ⟨(decN sz).toArray⟩ ++ ⟨#[93]⟩)] w4 fun e w' => (∃ v, e = .returned v) ∧ BD B b (l ++ [91] ++ put y ++ (58 :: (decN sz ++ [93]))) w' ∧ Below B w4 w' ∧ KT w4 w') := Lib.hid (by
        rw [HC.out]; exact w_string B b (l ++ [91] ++ put y) (58 :: (decN sz ++ [93])) w4 (BF.below H3.out.2.1.is hb4) (by simp; omega) (by have := hb4.size; omega))
      have H4 := Lib.hid (And.intro (H3.out.1.trans (hb4.mono hz3)) (H3.out.2.2.trans (KT.of hb4)))
      have hsb2 : ((⟨#[58]⟩ : ByteArray) ++ ⟨(decN sz).toArray⟩).size ≤ 10 := by rw [catL [58] (decN sz)]; have : (⟨([58] ++ decN sz).toArray⟩ : ByteArray).size = ([58] ++ decN sz).length := List.size_toArray; simp at this ⊢; omega
      clear hb4
      go_wp2_with fail
      refine (CW.out).mono ?_
      rintro e w5 ⟨⟨r5, rfl⟩, hbd5, hb5, hkt5⟩
      have H5 := Lib.hid (And.intro hbd5 (And.intro (H4.out.1.trans hb5) (H4.out.2.trans hkt5)))
      clear hbd5 hb5 hkt5
      go_wp2_with fail
      go_end0
      exact ⟨rfl, by have := H5.out.1; simpa using this, H5.out.2.1, H5.out.2.2⟩
    · obtain ⟨t, rfl⟩ : ∃ t : Nat, tail = t := ⟨tail.toNat, by omega⟩
      have hput : put (.node ⟨5, 0, (t : Int)⟩ s) = 123 :: (putL true t s ++ [125]) := by simp [put]
      rw [hput] at hlen ⊢
      obtain ⟨M, hM⟩ : ∃ M, s.length = M := ⟨_, rfl⟩
      have HM := Lib.hid hM
      have hM16 : M ≤ 16 := by omega
      have htM : t ≤ M := by omega
      have hlen' : l.length + (1 + ((putL true t s).length + 1)) ≤ 1000000 := by simp at hlen; omega
      rw [hM] at hve
      subst hve
      clear hput hlen h3 h4 h5 hcap hml hM
      go_enter Tryd.func25, Tryd.ntmps25
      go_upto_region 1 with fail
      generalize w.alloc (.cells #[.int .i64 5, .int .i64 0, .slice oa M cap, .int .i64 (t : Int)] 24) = w1 at *
      obtain ⟨hb1, hv1, hbf1, hT1, hz1, hB, hkt1⟩ := HA.out _ rfl
      have HKT1 := Lib.hid hkt1
      have c0 := hB.cell 0
      have c1 := hB.cell 1
      have c2 := hB.cell 2
      have c3 := hB.cell 3
      simp only [List.getElem?_toArray, List.getElem?_cons_zero, List.getElem?_cons_succ] at c0 c1 c2 c3
      have CB1 : Hid (Calls Tryd.prog 39 #[.pointer (some ⟨b, 0, none⟩), .int .u8 123] w1 fun e w' => (∃ v, e = .returned v) ∧ BD B b (l ++ [123]) w' ∧ Below B w1 w' ∧ KT w1 w') := Lib.hid (w_byte B b l 123 w1 hbf1 (by omega) (by omega))
      have HBk := Lib.hid hB
      have H1 := Lib.hid (And.intro hb1 (And.intro hv1 hT1))
      have hz1' : B ≤ w1.heap.size := by omega
      clear hb1 hv1 hbf1 hT1 hkt1 HA hB
      go_wp2_with fail
      refine (CB1.out).mono ?_
      rintro e w2 ⟨⟨r, rfl⟩, hbd2, hb2, hkt2⟩
      have hB2 : Blk w2 g #[.int .i64 5, .int .i64 0, .slice oa M cap, .int .i64 (t : Int)] 24 := hkt2 g _ _ HBk.out
      have HBk2 := Lib.hid hB2
      have d2 := hB2.cell 2
      simp only [List.getElem?_toArray, List.getElem?_cons_zero, List.getElem?_cons_succ] at d2
      have H2 : Hid (Below B w w2 ∧ TBel B w2 (.slice oa M cap) s ∧ TabS w2 ∧ KT w w2 ∧ BD B b (l ++ [123]) w2) := Lib.hid ⟨H1.out.1.trans hb2, H1.out.2.1.below hb2, H1.out.2.2.below hb2 hB1, HKT1.out.trans hkt2, hbd2⟩
      have hz2 : B ≤ w2.heap.size := by have := hb2.size; omega
      clear hbd2 hb2 hkt2 hB2 c0 c1 c2 c3 CB1 HBk H1 HKT1
      go_wp2_with fail
      clear d2
      go_loopw [4, 5, 57] (fun _ _ iv wi => ∃ k : Nat, iv = .int .i64 k ∧ k ≤ M ∧ Hid (∃ done, BD B b (l ++ 123 :: done) wi ∧ putL true t s = done ++ putL (decide (k = 0)) t (s.drop k)) ∧ Hid (Below B w2 wi) ∧ Hid (KT w2 wi)) (fun _ _ iv _ => M - (intOf iv).toNat)
      case atStart => exact ⟨0, rfl, by omega, Lib.hid ⟨[], by simpa using H2.out.2.2.2.2, by simp⟩, Lib.hid (Below.refl _ _), Lib.hid (KT.refl _)⟩
      case round =>
        obtain ⟨k, rfl, hk, HDN, hbe, hkt⟩ := hrel
        have hzr : B ≤ wr.heap.size := by have := hbe.out.size; omega
        by_cases c : k < M
        · obtain ⟨y, hy⟩ : ∃ y, s[k]? = some y := ⟨_, List.getElem?_eq_getElem (by rw [HM.out]; exact c)⟩
          obtain ⟨bb, off, u, rfl, hlt, hbB, y0, y1, y2, y3, hu, hwf⟩ := TBel.at_ (TBel.below H2.out.2.1 hbe.out) hy
          obtain ⟨ou, cu, rfl, _, _⟩ : ∃ ou cu, u = .slice ou y.sub.length cu ∧ y.sub.length ≤ cu ∧ cu ≤ maxLen := by
            obtain ⟨oa, cap, h1, h2, h3, _⟩ := hu
            exact ⟨oa, cap, h1, h2, h3⟩
          obtain ⟨ny, hny⟩ : ∃ ny, y.sub.length = ny := ⟨_, rfl⟩
          rw [hny] at hu y2
          clear hny hwf
          have HYR : Hid (y.all right1 = true) := Lib.hid (by
            cases hya : y.all right1 with
            | true => rfl
            | false => have := HRL.out; rw [Rose.allL_false hy hya] at this; cases this)
          have CY := Lib.hid (HIH.out y (List.mem_of_getElem? hy))
          have hstep := putL_step (decide (k = 0)) t s k y hy
          rw [HM.out] at hstep
          have HSTEP := Lib.hid hstep
          have HTX : Hid (∃ done, BD B b (l ++ 123 :: done) wr ∧ putL true t s = done ++ ((if decide (k = 0) = true then [] else [44]) ++ ((if M - k ≤ t then [63] else []) ++ (put y ++ putL false t (s.drop (k + 1)))))) := Lib.hid (by
            obtain ⟨done, h1, h2⟩ := HDN.out
            exact ⟨done, h1, by rw [h2, HSTEP.out]⟩)
          obtain ⟨done, hbd, hfull⟩ := HTX.out
          have hlf := congrArg List.length hfull
          have HFULL := Lib.hid hfull
          have HA4 : Hid (∀ W, wr.alloc (.cells #[.int .i64 y.lab.kind, .int .i64 y.lab.size, .slice ou ny cu, .int .i64 y.lab.tail] 24) = W → Below B w2 W ∧ KT w2 W ∧ TBel B W (.slice ou ny cu) y.sub ∧ TabS W ∧ BD B b (l ++ 123 :: done) W ∧
              Blk W wr.heap.size #[.int .i64 y.lab.kind, .int .i64 y.lab.size, .slice ou ny cu, .int .i64 y.lab.tail] 24) := Lib.hid fun W h => by
            subst h
            have hal := (Below.refl wr.heap.size wr).alloc (Nat.le_refl _) (.cells #[.int .i64 y.lab.kind, .int .i64 y.lab.size, .slice ou ny cu, .int .i64 y.lab.tail] 24)
            exact ⟨hbe.out.trans (hal.mono hzr), hkt.out.trans (KT.of hal), hu.below (hal.mono hzr), (H2.out.2.2.1.below hbe.out hB1).below (hal.mono hzr) hB1, hbd.below hal, Blk.new wr _ _⟩
          clear hu hbd hfull hstep HTX HSTEP HDN
          go_upto_region 17 with fail
          generalize wr.alloc (.cells #[.int .i64 y.lab.kind, .int .i64 y.lab.size, .slice ou ny cu, .int .i64 y.lab.tail] 24) = wa at *
          have GA := Lib.hid (HA4.out _ rfl)
          have BA0 : Hid (BD B b (l ++ 123 :: done) wa) := Lib.hid GA.out.2.2.2.2.1
          have BL0 : Hid (Below B w2 wa) := Lib.hid GA.out.1
          have BK0 : Hid (KT w2 wa) := Lib.hid GA.out.2.1
          have BT0 : Hid (Blk wa wr.heap.size #[.int .i64 y.lab.kind, .int .i64 y.lab.size, .slice ou ny cu, .int .i64 y.lab.tail] 24) := Lib.hid GA.out.2.2.2.2.2
          have hza : B ≤ wa.heap.size := by have := BL0.out.size; omega
          clear HA4 y0 y1 y2 y3
          have BV0 : Hid (TBel B wa (.slice ou ny cu) y.sub) := Lib.hid GA.out.2.2.1
          have BS0 : Hid (TabS wa) := Lib.hid GA.out.2.2.2.1
          have g2 := (show Blk wa g #[.int .i64 5, .int .i64 0, .slice (some ⟨bb, off, none⟩) M cap, .int .i64 (t : Int)] 24 from BK0.out g _ _ HBk2.out).cell 2
          have g3 := (show Blk wa g #[.int .i64 5, .int .i64 0, .slice (some ⟨bb, off, none⟩) M cap, .int .i64 (t : Int)] 24 from BK0.out g _ _ HBk2.out).cell 3
          have k0 := BT0.out.cell 0
          have k1 := BT0.out.cell 1
          have k2 := BT0.out.cell 2
          have k3 := BT0.out.cell 3
          simp only [List.getElem?_toArray, List.getElem?_cons_zero, List.getElem?_cons_succ] at g2 g3 k0 k1 k2 k3
          by_cases hk0 : k = 0
          · by_cases hmk : M - k ≤ t
            · have HK0 : Hid (k = 0) := Lib.hid hk0
              have HMK : Hid (M - k ≤ t) := Lib.hid hmk
              have dd0 : decide (0 < k) = false := decide_eq_false (by omega)
              have dd1 : decide ((M : Int) - t ≤ k) = true := by simp; omega
              have hlf2 := congrArg List.length HFULL.out
              rw [if_pos HMK.out] at hlf2
              simp [HK0.out] at hlf2
              clear hk0 hmk hlf
              have hlf := hlf2
              clear hlf2
              have CB1 : Hid (Calls Tryd.prog 39 #[.pointer (some ⟨b, 0, none⟩), .int .u8 63] wa fun e w' => (∃ v, e = .returned v) ∧ BD B b (l ++ 123 :: done ++ [63]) w' ∧ Below B wa w' ∧ KT wa w') := Lib.hid (w_byte B b (l ++ 123 :: done) 63 wa BA0.out.is (by simp; omega) (by have := BL0.out.size; omega))
              go_wp2_with fail
              refine (CB1.out).mono ?_
              rintro e wc ⟨⟨rr1, rfl⟩, hbdn, hbn, hktn⟩
              have BA1 : Hid (BD B b (l ++ 123 :: done ++ [63]) wc) := Lib.hid hbdn
              have BL1 : Hid (Below B w2 wc) := Lib.hid (BL0.out.trans hbn)
              have BK1 : Hid (KT w2 wc) := Lib.hid (BK0.out.trans hktn)
              have BT1 : Hid (Blk wc wr.heap.size #[.int .i64 y.lab.kind, .int .i64 y.lab.size, .slice ou ny cu, .int .i64 y.lab.tail] 24) := Lib.hid (hktn _ _ _ BT0.out)
              have BV1 : Hid (TBel B wc (.slice ou ny cu) y.sub) := Lib.hid (TBel.below BV0.out hbn)
              have BS1 : Hid (TabS wc) := Lib.hid (TabS.below BS0.out hbn hB1)
              clear hbdn hbn hktn g2 g3 k0 k1 k2 k3
              have g2 := (show Blk wc g #[.int .i64 5, .int .i64 0, .slice (some ⟨bb, off, none⟩) M cap, .int .i64 (t : Int)] 24 from BK1.out g _ _ HBk2.out).cell 2
              have g3 := (show Blk wc g #[.int .i64 5, .int .i64 0, .slice (some ⟨bb, off, none⟩) M cap, .int .i64 (t : Int)] 24 from BK1.out g _ _ HBk2.out).cell 3
              have k0 := BT1.out.cell 0
              have k1 := BT1.out.cell 1
              have k2 := BT1.out.cell 2
              have k3 := BT1.out.cell 3
              simp only [List.getElem?_toArray, List.getElem?_cons_zero, List.getElem?_cons_succ] at g2 g3 k0 k1 k2 k3
              have CW := Lib.hid (CY.out wc (.slice ou ny cu) ((l ++ 123 :: done) ++ [63]) BV1.out BA1.out.is BS1.out HYR.out (by simp; omega) (by have := BL1.out.size; omega) (Lib.BuilderAt.lt BA1.out))
              go_wp2_with fail
              refine (CW.out).mono ?_
              rintro e wz ⟨rfl, hbdz, hbz, hktz⟩
              have HZ := Lib.hid (And.intro hbdz (And.intro (BL1.out.trans hbz) (BK1.out.trans hktz)))
              clear hbdz hbz hktz
              go_wp2_with fail
              go_roundw
              case rel =>
                refine ⟨k + 1, by go_num, by omega, Lib.hid ⟨_, by have h := HZ.out.1; rw [List.append_assoc] at h; simpa using h, ?_⟩, Lib.hid HZ.out.2.1, Lib.hid HZ.out.2.2⟩
                rw [HFULL.out, if_pos HMK.out]
                simp [HK0.out]
              case measure => simp [intOf]; omega
            · have HK0 : Hid (k = 0) := Lib.hid hk0
              have HMK : Hid (¬ (M - k ≤ t)) := Lib.hid hmk
              have dd0 : decide (0 < k) = false := decide_eq_false (by omega)
              have dd1 : decide ((M : Int) - t ≤ k) = false := by simp; omega
              have hlf2 := congrArg List.length HFULL.out
              rw [if_neg HMK.out] at hlf2
              simp [HK0.out] at hlf2
              clear hk0 hmk hlf
              have hlf := hlf2
              clear hlf2
              have CW := Lib.hid (CY.out wa (.slice ou ny cu) (l ++ 123 :: done) BV0.out BA0.out.is BS0.out HYR.out (by simp; omega) (by have := BL0.out.size; omega) (Lib.BuilderAt.lt BA0.out))
              go_wp2_with fail
              refine (CW.out).mono ?_
              rintro e wz ⟨rfl, hbdz, hbz, hktz⟩
              have HZ := Lib.hid (And.intro hbdz (And.intro (BL0.out.trans hbz) (BK0.out.trans hktz)))
              clear hbdz hbz hktz
              go_wp2_with fail
              go_roundw
              case rel =>
                refine ⟨k + 1, by go_num, by omega, Lib.hid ⟨_, by have h := HZ.out.1; rw [List.append_assoc] at h; simpa using h, ?_⟩, Lib.hid HZ.out.2.1, Lib.hid HZ.out.2.2⟩
                rw [HFULL.out, if_neg HMK.out]
                simp [HK0.out]
              case measure => simp [intOf]; omega
          · by_cases hmk : M - k ≤ t
            · have HK0 : Hid (k ≠ 0) := Lib.hid hk0
              have HMK : Hid (M - k ≤ t) := Lib.hid hmk
              have dd0 : decide (0 < k) = true := decide_eq_true (by omega)
              have dd1 : decide ((M : Int) - t ≤ k) = true := by simp; omega
              have hlf2 := congrArg List.length HFULL.out
              rw [if_pos HMK.out] at hlf2
              simp [HK0.out] at hlf2
              clear hk0 hmk hlf
              have hlf := hlf2
              clear hlf2
              have CB1 : Hid (Calls Tryd.prog 39 #[.pointer (some ⟨b, 0, none⟩), .int .u8 44] wa fun e w' => (∃ v, e = .returned v) ∧ BD B b (l ++ 123 :: done ++ [44]) w' ∧ Below B wa w' ∧ KT wa w') := Lib.hid (w_byte B b (l ++ 123 :: done) 44 wa BA0.out.is (by simp; omega) (by have := BL0.out.size; omega))
              go_wp2_with fail
              refine (CB1.out).mono ?_
              rintro e wb ⟨⟨rr1, rfl⟩, hbdn, hbn, hktn⟩
              have BA1 : Hid (BD B b (l ++ 123 :: done ++ [44]) wb) := Lib.hid hbdn
              have BL1 : Hid (Below B w2 wb) := Lib.hid (BL0.out.trans hbn)
              have BK1 : Hid (KT w2 wb) := Lib.hid (BK0.out.trans hktn)
              have BT1 : Hid (Blk wb wr.heap.size #[.int .i64 y.lab.kind, .int .i64 y.lab.size, .slice ou ny cu, .int .i64 y.lab.tail] 24) := Lib.hid (hktn _ _ _ BT0.out)
              have BV1 : Hid (TBel B wb (.slice ou ny cu) y.sub) := Lib.hid (TBel.below BV0.out hbn)
              have BS1 : Hid (TabS wb) := Lib.hid (TabS.below BS0.out hbn hB1)
              clear hbdn hbn hktn g2 g3 k0 k1 k2 k3
              have g2 := (show Blk wb g #[.int .i64 5, .int .i64 0, .slice (some ⟨bb, off, none⟩) M cap, .int .i64 (t : Int)] 24 from BK1.out g _ _ HBk2.out).cell 2
              have g3 := (show Blk wb g #[.int .i64 5, .int .i64 0, .slice (some ⟨bb, off, none⟩) M cap, .int .i64 (t : Int)] 24 from BK1.out g _ _ HBk2.out).cell 3
              have k0 := BT1.out.cell 0
              have k1 := BT1.out.cell 1
              have k2 := BT1.out.cell 2
              have k3 := BT1.out.cell 3
              simp only [List.getElem?_toArray, List.getElem?_cons_zero, List.getElem?_cons_succ] at g2 g3 k0 k1 k2 k3
              have CB2 : Hid (Calls Tryd.prog 39 #[.pointer (some ⟨b, 0, none⟩), .int .u8 63] wb fun e w' => (∃ v, e = .returned v) ∧ BD B b ((l ++ 123 :: done) ++ [44] ++ [63]) w' ∧ Below B wb w' ∧ KT wb w') := Lib.hid (w_byte B b ((l ++ 123 :: done) ++ [44]) 63 wb BA1.out.is (by simp; omega) (by have := BL1.out.size; omega))
              go_wp2_with fail
              refine (CB2.out).mono ?_
              rintro e wc ⟨⟨rr2, rfl⟩, hbdn, hbn, hktn⟩
              have BA2 : Hid (BD B b ((l ++ 123 :: done) ++ [44] ++ [63]) wc) := Lib.hid hbdn
              have BL2 : Hid (Below B w2 wc) := Lib.hid (BL1.out.trans hbn)
              have BK2 : Hid (KT w2 wc) := Lib.hid (BK1.out.trans hktn)
              have BT2 : Hid (Blk wc wr.heap.size #[.int .i64 y.lab.kind, .int .i64 y.lab.size, .slice ou ny cu, .int .i64 y.lab.tail] 24) := Lib.hid (hktn _ _ _ BT1.out)
              have BV2 : Hid (TBel B wc (.slice ou ny cu) y.sub) := Lib.hid (TBel.below BV1.out hbn)
              have BS2 : Hid (TabS wc) := Lib.hid (TabS.below BS1.out hbn hB1)
              clear hbdn hbn hktn g2 g3 k0 k1 k2 k3
              have g2 := (show Blk wc g #[.int .i64 5, .int .i64 0, .slice (some ⟨bb, off, none⟩) M cap, .int .i64 (t : Int)] 24 from BK2.out g _ _ HBk2.out).cell 2
              have g3 := (show Blk wc g #[.int .i64 5, .int .i64 0, .slice (some ⟨bb, off, none⟩) M cap, .int .i64 (t : Int)] 24 from BK2.out g _ _ HBk2.out).cell 3
              have k0 := BT2.out.cell 0
              have k1 := BT2.out.cell 1
              have k2 := BT2.out.cell 2
              have k3 := BT2.out.cell 3
              simp only [List.getElem?_toArray, List.getElem?_cons_zero, List.getElem?_cons_succ] at g2 g3 k0 k1 k2 k3
              have CW := Lib.hid (CY.out wc (.slice ou ny cu) (((l ++ 123 :: done) ++ [44]) ++ [63]) BV2.out BA2.out.is BS2.out HYR.out (by simp; omega) (by have := BL2.out.size; omega) (Lib.BuilderAt.lt BA2.out))
              go_wp2_with fail
              refine (CW.out).mono ?_
              rintro e wz ⟨rfl, hbdz, hbz, hktz⟩
              have HZ := Lib.hid (And.intro hbdz (And.intro (BL2.out.trans hbz) (BK2.out.trans hktz)))
              clear hbdz hbz hktz
              go_wp2_with fail
              go_roundw
              case rel =>
                refine ⟨k + 1, by go_num, by omega, Lib.hid ⟨_, by have h := HZ.out.1; rw [List.append_assoc] at h; simpa using h, ?_⟩, Lib.hid HZ.out.2.1, Lib.hid HZ.out.2.2⟩
                rw [HFULL.out, if_pos HMK.out]
                simp [HK0.out]
              case measure => simp [intOf]; omega
            · have HK0 : Hid (k ≠ 0) := Lib.hid hk0
              have HMK : Hid (¬ (M - k ≤ t)) := Lib.hid hmk
              have dd0 : decide (0 < k) = true := decide_eq_true (by omega)
              have dd1 : decide ((M : Int) - t ≤ k) = false := by simp; omega
              have hlf2 := congrArg List.length HFULL.out
              rw [if_neg HMK.out] at hlf2
              simp [HK0.out] at hlf2
              clear hk0 hmk hlf
              have hlf := hlf2
              clear hlf2
              have CB1 : Hid (Calls Tryd.prog 39 #[.pointer (some ⟨b, 0, none⟩), .int .u8 44] wa fun e w' => (∃ v, e = .returned v) ∧ BD B b (l ++ 123 :: done ++ [44]) w' ∧ Below B wa w' ∧ KT wa w') := Lib.hid (w_byte B b (l ++ 123 :: done) 44 wa BA0.out.is (by simp; omega) (by have := BL0.out.size; omega))
              go_wp2_with fail
              refine (CB1.out).mono ?_
              rintro e wb ⟨⟨rr1, rfl⟩, hbdn, hbn, hktn⟩
              have BA1 : Hid (BD B b (l ++ 123 :: done ++ [44]) wb) := Lib.hid hbdn
              have BL1 : Hid (Below B w2 wb) := Lib.hid (BL0.out.trans hbn)
              have BK1 : Hid (KT w2 wb) := Lib.hid (BK0.out.trans hktn)
              have BT1 : Hid (Blk wb wr.heap.size #[.int .i64 y.lab.kind, .int .i64 y.lab.size, .slice ou ny cu, .int .i64 y.lab.tail] 24) := Lib.hid (hktn _ _ _ BT0.out)
              have BV1 : Hid (TBel B wb (.slice ou ny cu) y.sub) := Lib.hid (TBel.below BV0.out hbn)
              have BS1 : Hid (TabS wb) := Lib.hid (TabS.below BS0.out hbn hB1)
              clear hbdn hbn hktn g2 g3 k0 k1 k2 k3
              have g2 := (show Blk wb g #[.int .i64 5, .int .i64 0, .slice (some ⟨bb, off, none⟩) M cap, .int .i64 (t : Int)] 24 from BK1.out g _ _ HBk2.out).cell 2
              have g3 := (show Blk wb g #[.int .i64 5, .int .i64 0, .slice (some ⟨bb, off, none⟩) M cap, .int .i64 (t : Int)] 24 from BK1.out g _ _ HBk2.out).cell 3
              have k0 := BT1.out.cell 0
              have k1 := BT1.out.cell 1
              have k2 := BT1.out.cell 2
              have k3 := BT1.out.cell 3
              simp only [List.getElem?_toArray, List.getElem?_cons_zero, List.getElem?_cons_succ] at g2 g3 k0 k1 k2 k3
              have CW := Lib.hid (CY.out wb (.slice ou ny cu) ((l ++ 123 :: done) ++ [44]) BV1.out BA1.out.is BS1.out HYR.out (by simp; omega) (by have := BL1.out.size; omega) (Lib.BuilderAt.lt BA1.out))
              go_wp2_with fail
              refine (CW.out).mono ?_
              rintro e wz ⟨rfl, hbdz, hbz, hktz⟩
              have HZ := Lib.hid (And.intro hbdz (And.intro (BL1.out.trans hbz) (BK1.out.trans hktz)))
              clear hbdz hbz hktz
              go_wp2_with fail
              go_roundw
              case rel =>
                refine ⟨k + 1, by go_num, by omega, Lib.hid ⟨_, by have h := HZ.out.1; rw [List.append_assoc] at h; simpa using h, ?_⟩, Lib.hid HZ.out.2.1, Lib.hid HZ.out.2.2⟩
                rw [HFULL.out, if_neg HMK.out]
                simp [HK0.out]
              case measure => simp [intOf]; omega
        · obtain rfl : k = M := by omega
          have HTX : Hid (∃ done, BD B b (l ++ 123 :: done) wr ∧ putL true t s = done) := Lib.hid (by
            obtain ⟨done, h1, h2⟩ := HDN.out
            refine ⟨done, h1, ?_⟩
            rw [h2, List.drop_of_length_le (by have := HM.out; omega)]
            simp [putL])
          obtain ⟨done, hbd, hfull⟩ := HTX.out
          have CBz : Hid (Calls Tryd.prog 39 #[.pointer (some ⟨b, 0, none⟩), .int .u8 125] wr fun e w' => (∃ v, e = .returned v) ∧ BD B b (l ++ 123 :: done ++ [125]) w' ∧ Below B wr w' ∧ KT wr w') := Lib.hid (w_byte B b (l ++ 123 :: done) 125 wr hbd.is (by rw [hfull] at hlen'; simp; omega) hzr)
          have HFULL := Lib.hid hfull
          clear hbd hfull HTX HDN
          go_wp2_with fail
          refine (CBz.out).mono ?_
          rintro e wz ⟨⟨rz, rfl⟩, hbdz, hbz, hktz⟩
          have HZ := Lib.hid (And.intro hbdz (And.intro (H2.out.1.trans (hbe.out.trans hbz)) ((H2.out.2.2.2.1.trans hkt.out).trans hktz)))
          clear hbdz hbz hktz
          go_wp2_with fail
          go_end0
          exact ⟨rfl, by have h := HZ.out.1; rw [HFULL.out]; simpa using h, HZ.out.2.1, HZ.out.2.2⟩
end Go.Proofs.YtopfpfpefljkkaaDoor
