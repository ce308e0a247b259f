/- Package schema: the reader's read and fields. -/
import Derived.Test.YtopfpfpefljkkaaDoorRdNum
import Derived.Test.YtopfpfpefljkkaaDoorTreeOwn
namespace Go.Proofs.YtopfpfpefljkkaaDoor
open Go.RowKit
set_option linter.unusedVariables false
set_option linter.unusedSimpArgs false

theorem RdB.upd {w w' : World} {b c : Nat} {s : ByteArray} {p l : Nat} (h : RdB w b s p l) (hu : Upd c w w') (hne : b ≠ c) : RdB w' b s p l := hu.blk h hne
theorem RdB.below {w w' : World} {b : Nat} {s : ByteArray} {p l : Nat} (h : RdB w b s p l) (hb : Below w.heap.size w w') : RdB w' b s p l := Below.blk hb h (Blk.lt h)
theorem RdB.lt {w : World} {b : Nat} {s : ByteArray} {p l : Nat} (h : RdB w b s p l) : b < w.heap.size := Blk.lt h

/-- Four cells of a block are written. -/
def put4 (w : World) (g : Nat) (a b c d : Value) : World := (((w.setCell ⟨g, 0, none⟩ a).setCell ⟨g, 1, none⟩ b).setCell ⟨g, 2, none⟩ c).setCell ⟨g, 3, none⟩ d
theorem put4_eq (w : World) (g : Nat) (a b c d : Value) : (((w.setCell ⟨g, 0, none⟩ a).setCell ⟨g, 1, none⟩ b).setCell ⟨g, 2, none⟩ c).setCell ⟨g, 3, none⟩ d = put4 w g a b c d := rfl
theorem put4_blk {w : World} {g : Nat} {x y z u a b c d : Value} {t : TypeId} (h : Blk w g #[x, y, z, u] t) : Blk (put4 w g a b c d) g #[a, b, c, d] t := by
  have := (((h.set 0 a).set 1 b).set 2 c).set 3 d
  simpa [put4] using this
theorem put4_upd {b0 : Nat} {u w : World} {g : Nat} {a b c d : Value} (h : Upd b0 u w) (hg : u.heap.size ≤ g) : Upd b0 u (put4 w g a b c d) :=
  Upd.setNew (Upd.setNew (Upd.setNew (Upd.setNew h (a := ⟨g, 0, none⟩) hg a) (a := ⟨g, 1, none⟩) hg b) (a := ⟨g, 2, none⟩) hg c) (a := ⟨g, 3, none⟩) hg d
theorem put4_other {w : World} {g h : Nat} {a b c d : Value} {cs : Array Value} {t : TypeId} (hb : Blk w h cs t) (hne : h ≠ g) : Blk (put4 w g a b c d) h cs t :=
  (((hb.setOther (a := ⟨g, 0, none⟩) hne a).setOther (a := ⟨g, 1, none⟩) hne b).setOther (a := ⟨g, 2, none⟩) hne c).setOther (a := ⟨g, 3, none⟩) hne d
theorem put4_heap {w : World} {g : Nat} {a b c d : Value} (k : Nat) (h : k ≠ g) : (put4 w g a b c d).heap[k]? = w.heap[k]? := by
  unfold put4
  rw [Below.heap_setCell _ _ _ _ h, Below.heap_setCell _ _ _ _ h, Below.heap_setCell _ _ _ _ h, Below.heap_setCell _ _ _ _ h]
theorem put4_size {w : World} {g : Nat} {a b c d : Value} : (put4 w g a b c d).heap.size = w.heap.size := by simp [put4, World.setCell]
theorem put4_subs {w : World} {g : Nat} {a b c d : Value} {Q : Nat → Prop} {v : Value} {s : List (Rose TL)} (h : tshape.Subs w Q v s) (hq : ∀ k, Q k → k ≠ g) : tshape.Subs (put4 w g a b c d) Q v s :=
  h.keep (Nat.le_of_eq put4_size.symm) (fun _ _ h => h) fun k _ hk => put4_heap k (hq k hk)

def SizedPost (kind : Int) (b : Nat) (s : ByteArray) (p l most : Nat) (w : World) (e : Ending) (w' : World) : Prop :=
  ∃ (n : Nat) (ok : Bool) (p' : Nat), e = .returned (.tuple #[.agg #[.int .i64 kind, .int .i64 (n : Int), .slice none 0 0, .int .i64 0], .bool ok]) ∧ Upd b w w' ∧ RdB w' b s p' l ∧ p' ≤ s.size ∧ n ≤ most ∧
    (ok = true → num most (tailS s p) = some (n, tailS s p')) ∧ (ok = false → num most (tailS s p) = none)

set_option maxRecDepth 100000 in
set_option maxHeartbeats 1000000 in
theorem rd_sized (kind : Int) (b bx : Nat) (s : ByteArray) (p l most : Nat) (w : World) (hs : s.size ≤ maxLen) (hp : p ≤ s.size) (hm : most ≤ 65536) (hb : RdB w b s p l) (hx : w.cell? ⟨bx, 0, none⟩ = some (.pointer (some ⟨b, 0, none⟩))) :
    Calls Tryd.prog 32 #[.int .i64 kind, .int .i64 (most : Int), .pointer (some ⟨bx, 0, none⟩)] w (SizedPost kind b s p l most w) := by
  have hxlt : bx < w.heap.size := by
    rcases Nat.lt_or_ge bx w.heap.size with h | h
    · exact h
    · simp [World.cell?, Array.getElem?_eq_none h] at hx
  obtain ⟨g, hg⟩ : ∃ g, w.heap.size = g := ⟨_, rfl⟩
  have HA : Hid (∀ W, w.alloc (.cells #[.int .i64 0, .int .i64 0, .slice none 0 0, .int .i64 0] 24) = W → Upd b w W ∧ RdB W b s p l ∧ W.cell? ⟨bx, 0, none⟩ = some (.pointer (some ⟨b, 0, none⟩)) ∧
      Blk W g #[.int .i64 0, .int .i64 0, .slice none 0 0, .int .i64 0] 24) := Lib.hid fun W h => by
    subst h
    have hal := (Below.refl w.heap.size w).alloc (Nat.le_refl _) (.cells #[.int .i64 0, .int .i64 0, .slice none 0 0, .int .i64 0] 24)
    exact ⟨Upd.of hal, hb.below hal, (hal.cell (p := ⟨bx, 0, none⟩) hxlt).trans hx, hg ▸ Blk.new w _ _⟩
  have hbg : b < g := hg ▸ hb.lt
  have HX := Lib.hid hxlt
  clear hb hx hxlt
  go_enter Tryd.func32, Tryd.ntmps32
  go_upto_region 1 with fail
  generalize w.alloc (.cells #[.int .i64 0, .int .i64 0, .slice none 0 0, .int .i64 0] 24) = w1 at *
  obtain ⟨hu1, hr1, hx1, hB1⟩ := HA.out _ rfl
  have CN := Lib.hid (rd_number b s p l most w1 hs hp hm hr1)
  have HU1 := Lib.hid hu1
  have HB1 := Lib.hid hB1
  clear HA hu1 hr1 hB1
  go_wp2_with fail
  refine (CN.out).mono ?_
  rintro e w2 ⟨n, ok, p', rfl, hu2, hr2, hp2, hn2, hok, hno⟩
  have hB2 : Blk w2 g #[.int .i64 0, .int .i64 0, .slice none 0 0, .int .i64 0] 24 := hu2.blk HB1.out (by omega)
  have d0 : w2.cell? ⟨g, 0, none⟩ = some (.int .i64 0) := hB2.cell 0
  have d1 : w2.cell? ⟨g, 1, none⟩ = some (.int .i64 0) := hB2.cell 1
  have d2 : w2.cell? ⟨g, 2, none⟩ = some (.slice none 0 0) := hB2.cell 2
  have d3 : w2.cell? ⟨g, 3, none⟩ = some (.int .i64 0) := hB2.cell 3
  have z0 := hB2.free 0
  have z1 := hB2.free 1
  have z2 := hB2.free 2
  have z3 := hB2.free 3
  have H2 := Lib.hid (And.intro (HU1.out.trans hu2) (And.intro hr2 (And.intro hp2 (And.intro hn2 (And.intro hok hno)))))
  have HB2 := Lib.hid hB2
  clear hu2 hr2 hok hno hB2
  go_wp2_with fail
  rw [put4_eq]
  obtain ⟨a1, a2, a3, a4, a5, a6⟩ := H2.out
  have hB3 := put4_blk (a := .int .i64 kind) (b := .int .i64 (n : Int)) (c := .slice none 0 0) (d := .int .i64 0) (show Blk w2 g #[.int .i64 0, .int .i64 0, .slice none 0 0, .int .i64 0] 24 from HB2.out)
  have e0 := hB3.cell 0
  have e1 := hB3.cell 1
  have e2 := hB3.cell 2
  have e3 := hB3.cell 3
  simp only [List.getElem?_toArray, List.getElem?_cons_zero, List.getElem?_cons_succ] at e0 e1 e2 e3
  refine bodyPost_ret (v := .tuple #[.agg #[.int .i64 kind, .int .i64 n, .slice none 0 0, .int .i64 0], .bool ok]) (by simp [results, Tryd.results32, go_sem, e0, e1, e2, e3]) rfl ?_
  exact ⟨n, ok, p', rfl, put4_upd a1 (by omega), put4_other a2 (by omega), a3, a4, a5, a6⟩
end Go.Proofs.YtopfpfpefljkkaaDoor
