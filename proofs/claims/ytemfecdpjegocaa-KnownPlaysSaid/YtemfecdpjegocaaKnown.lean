/- Package known: the row of sums in memory; New, push, pull of the eldest. -/
import Derived.Test.YtemfecdpjegocaaChecked
import Derived.Test.YtemfecdpjegocaaPMap
import Derived.Test.YtemfecdpjegocaaTail
import Derived.WalkSpells
import Derived.Carry
import Derived.Deep.Cut
namespace Go.Proofs.Ytemfecdpjegocaa
open Go.RowKit
set_option linter.unusedVariables false
set_option linter.unusedSimpArgs false

theorem lnk_types : PTypes Try.prog 98 9 99 := ⟨Try.underlying98, Try.underlying9, fun _ => by kernel_rfl⟩

/-- All blocks but those of O are as they were; there may be new ones. -/
structure KeepsO (O : Nat → Prop) (w w' : World) : Prop where
  os : w'.os = w.os
  tape : w'.tape = w.tape
  output : w'.output = w.output
  size : w.heap.size ≤ w'.heap.size
  block : ∀ i, i < w.heap.size → ¬ O i → w'.heap[i]? = w.heap[i]?
theorem KeepsO.refl (O : Nat → Prop) (w : World) : KeepsO O w w := ⟨rfl, rfl, rfl, Nat.le_refl _, fun _ _ _ => rfl⟩
theorem KeepsO.trans {O : Nat → Prop} {u v w : World} (h : KeepsO O u v) (k : KeepsO O v w) : KeepsO O u w :=
  ⟨k.os.trans h.os, k.tape.trans h.tape, k.output.trans h.output, Nat.le_trans h.size k.size, fun i hi hn => (k.block i (Nat.lt_of_lt_of_le hi h.size) hn).trans (h.block i hi hn)⟩
theorem KeepsO.mono {O O' : Nat → Prop} {u v : World} (h : KeepsO O u v) (hO : ∀ i, i < u.heap.size → O i → O' i) : KeepsO O' u v := ⟨h.os, h.tape, h.output, h.size, fun i hi hn => h.block i hi fun ho => hn (hO i hi ho)⟩
theorem KeepsO.drewN {O : Nat → Prop} {u v : World} (h : KeepsO O u v) (n : Nat) : KeepsO O u (v.drewN n) := ⟨h.os, h.tape, h.output, h.size, h.block⟩
theorem KeepsO.alloc {O : Nat → Prop} {u v : World} (h : KeepsO O u v) (o : Obj) : KeepsO O u (v.alloc o) :=
  h.trans ⟨rfl, rfl, rfl, by rw [World.size_alloc]; omega, fun i hi _ => Below.heap_alloc v o i hi⟩
theorem KeepsO.set {O : Nat → Prop} {u v : World} (h : KeepsO O u v) {a : Addr} (ha : O a.block) (x : Value) : KeepsO O u (v.setCell a x) :=
  h.trans ⟨rfl, rfl, rfl, by simp [World.setCell], fun i hi hn => Below.heap_setCell v a x i (fun e => hn (e ▸ ha))⟩
theorem KeepsO.upd {O : Nat → Prop} {u v w : World} {b : Nat} (h : KeepsO O u v) (hu : Upd b v w) (hb : O b) : KeepsO O u w :=
  h.trans ⟨hu.os, hu.tape, hu.output, hu.size, fun i hi hn => hu.block i hi (fun e => hn (by cases e; exact hb))⟩
theorem KeepsO.ofBelow {O : Nat → Prop} {u v w : World} (h : KeepsO O u v) (hb : Below v.heap.size v w) : KeepsO O u w :=
  h.trans ⟨hb.os, hb.tape, hb.output, hb.size, fun i hi _ => hb.block i hi⟩
theorem KeepsO.below {O : Nat → Prop} {B : Nat} {w0 u v : World} (h : KeepsO O u v) (hb : Below B w0 u) (hO : ∀ i, O i → B ≤ i) (hBu : B ≤ u.heap.size) : Below B w0 v :=
  hb.trans ⟨h.os, h.tape, h.output, h.size, fun i hi => h.block i (by omega) fun ho => by have := hO i ho; omega⟩
theorem KeepsO.blk {O : Nat → Prop} {u v : World} {b : Nat} {cs : Array Value} {t : TypeId} (h : KeepsO O u v) (hb : Blk u b cs t) (hn : ¬ O b) : Blk v b cs t := by
  unfold Blk
  rw [h.block b hb.lt hn]; exact hb

def nodeC (p : Option Nat) (s : List UInt8) (x : Option Nat) : Array Value := #[.string ⟨s.toArray⟩, pv p, pv x]
def hd? (R : List (Nat × List UInt8)) : Option Nat := R.head?.map Prod.fst
def Chain (w : World) : Option Nat → List (Nat × List UInt8) → Prop
  | _, [] => True
  | p, (b, s) :: r => Blk w b (nodeC p s (hd? r)) 104 ∧ Chain w (some b) r
theorem Chain.kept {w w' : World} : ∀ {p : Option Nat} {R : List (Nat × List UInt8)}, Chain w p R → (∀ x ∈ R, x.1 < w.heap.size → w'.heap[x.1]? = w.heap[x.1]?) → Chain w' p R
  | _, [], _, _ => trivial
  | p, (b, s) :: r, ⟨h1, h2⟩, hk => ⟨by unfold Blk; rw [hk (b, s) (by simp) h1.lt]; exact h1, Chain.kept h2 fun x hx => hk x (by simp [hx])⟩
theorem Chain.lt {w : World} : ∀ {p : Option Nat} {R : List (Nat × List UInt8)}, Chain w p R → ∀ x ∈ R, x.1 < w.heap.size
  | _, [], _, x, hx => by cases hx
  | p, (b, s) :: r, ⟨h1, h2⟩, x, hx => by
    rcases List.mem_cons.1 hx with rfl | hx
    · exact h1.lt
    · exact Chain.lt h2 x hx
def lastOr (p : Option Nat) (R : List (Nat × List UInt8)) : Option Nat := match R.getLast? with | none => p | some x => some x.1
theorem lastOr_cons (p : Option Nat) (x : Nat × List UInt8) (r : List (Nat × List UInt8)) : lastOr p (x :: r) = lastOr (some x.1) r := by
  unfold lastOr
  rw [List.getLast?_cons]
  cases r.getLast? <;> rfl
theorem hd_app {R : List (Nat × List UInt8)} {x : Nat × List UInt8} {T T' : List (Nat × List UInt8)} (hT : hd? T = hd? T') : hd? (R ++ T) = hd? (R ++ T') := by
  cases R with
  | nil => exact hT
  | cons y r => rfl
/-- The last node of a row. -/
theorem Chain.last {w : World} {b : Nat} {s : List UInt8} : ∀ {p : Option Nat} {R : List (Nat × List UInt8)}, Chain w p (R ++ [(b, s)]) → Blk w b (nodeC (lastOr p R) s none) 104
  | p, [], ⟨h, _⟩ => h
  | p, x :: r, ⟨h1, h2⟩ => by rw [lastOr_cons]; exact Chain.last h2
/-- A node is laid at the end. -/
theorem Chain.snoc {w w' : World} {b bl : Nat} {s sl : List UInt8} : ∀ {p : Option Nat} {R : List (Nat × List UInt8)}, Chain w p (R ++ [(b, s)]) → (∀ x ∈ R, x.1 < w.heap.size → w'.heap[x.1]? = w.heap[x.1]?) →
    Blk w' b (nodeC (lastOr p R) s (some bl)) 104 → Blk w' bl (nodeC (some b) sl none) 104 → Chain w' p (R ++ [(b, s)] ++ [(bl, sl)])
  | p, [], _, _, h1, h2 => ⟨h1, h2, trivial⟩
  | p, x :: r, ⟨h1, h2⟩, hk, h3, h4 => by
    refine ⟨?_, Chain.snoc h2 (fun y hy => hk y (by simp [hy])) (by rw [← lastOr_cons p x r]; exact h3) h4⟩
    have e : hd? (r ++ [(b, s)]) = hd? (r ++ [(b, s)] ++ [(bl, sl)]) := by cases r <;> rfl
    show Blk w' x.1 (nodeC p x.2 (hd? (r ++ [(b, s)] ++ [(bl, sl)]))) 104
    rw [← e]
    unfold Blk
    rw [hk x (by simp) h1.lt]; exact h1
theorem nil_or_snoc {α : Type} (l : List α) : l = [] ∨ ∃ r x, l = r ++ [x] := by
  rcases List.eq_nil_or_concat l with h | ⟨r, x, h⟩
  · exact .inl h
  · exact .inr ⟨r, x, by rw [h, List.concat_eq_append]⟩
theorem lastOr_snoc (p : Option Nat) (R : List (Nat × List UInt8)) (x : Nat × List UInt8) : lastOr p (R ++ [x]) = some x.1 := by
  unfold lastOr; rw [List.getLast?_append]; rfl
theorem hd_snoc2 (R : List (Nat × List UInt8)) (x y : Nat × List UInt8) : hd? (R ++ [x] ++ [y]) = hd? (R ++ [x]) := by cases R <;> rfl
theorem Blk.cast {w : World} {b : Nat} {cs cs' : Array Value} {t : TypeId} (h : Blk w b cs t) (e : cs = cs') : Blk w b cs' t := e ▸ h

def setC (room bm : Nat) (R : List (Nat × List UInt8)) : Array Value := #[.int .i64 room, .map (some bm), pv (hd? R), pv (lastOr none R)]
/-- The row in memory. -/
structure RowAt (bs bm room : Nat) (w : World) (R : List (Nat × List UInt8)) : Prop where
  bd : Blk w bs (setC room bm R) 101
  ch : Chain w none R
  nd : (R.map Prod.fst).Nodup
  ne : ∀ x ∈ R, x.1 ≠ bs ∧ x.1 ≠ bm
def RowR (bs : Nat) (R : List (Nat × List UInt8)) (i : Nat) : Prop := i = bs ∨ i ∈ R.map Prod.fst
def OwnR (bs bm : Nat) (R : List (Nat × List UInt8)) (i : Nat) : Prop := i = bs ∨ i = bm ∨ i ∈ R.map Prod.fst

set_option maxRecDepth 100000 in
theorem known_new (room : Nat) (w : World) (h1 : 1 ≤ room ∧ room ≤ 1024) :
    Calls Try.prog 15 #[.int .i64 room] w fun en w' => en = .returned (.tuple #[.pointer (some ⟨w.heap.size + 1, 0, none⟩), .int .i64 0]) ∧ RowAt (w.heap.size + 1) w.heap.size room w' [] ∧ PMap Try.prog 9 w' w.heap.size 0 0 (fun _ => none) ∧ Below w.heap.size w w' := by
  have hmm := @run_makeMap Try.prog
  have g1 : decide ((room : Int) < 1) = false := by simp; omega
  have g2 : decide (1024 < (room : Int)) = false := by simp; omega
  clear h1
  go_enter Try.func15, Try.ntmps15
  go_wp2_with fail
  go_returns
  have hb := Blk.new (w.alloc (.map #[] 0)) (setC room w.heap.size []) 101
  rw [World.size_alloc] at hb
  exact ⟨rfl, ⟨hb, trivial, List.nodup_nil, fun x hx => by cases hx⟩, PMap.below (PMap.made w) ((Below.refl _ _).alloc (Nat.le_refl _) _), ((Below.refl _ _).alloc (Nat.le_refl _) _).alloc (by rw [World.size_alloc]; omega) _⟩

set_option maxRecDepth 100000 in
set_option maxHeartbeats 1000000 in
theorem known_push {bs bm room : Nat} {w : World} {R : List (Nat × List UInt8)} (h : RowAt bs bm room w R) (bl : Nat) (s : List UInt8) (v1 v2 : Value) (hl : Blk w bl #[.string ⟨s.toArray⟩, v1, v2] 104) (hne : bl ≠ bs ∧ bl ≠ bm) (hnR : bl ∉ R.map Prod.fst) :
    Calls Try.prog 47 #[.pointer (some ⟨bs, 0, none⟩), .pointer (some ⟨bl, 0, none⟩)] w fun en w' => en = .returned (.tuple #[]) ∧ RowAt bs bm room w' (R ++ [(bl, s)]) ∧ KeepsO (RowR bs (R ++ [(bl, s)])) w w' := by
  have s2 : w.cell? ⟨bs, 2, none⟩ = some (pv (hd? R)) := h.bd.cell 2
  have s3 : w.cell? ⟨bs, 3, none⟩ = some (pv (lastOr none R)) := h.bd.cell 3
  have fs := h.bd.free
  have l1 : w.cell? ⟨bl, 1, none⟩ = some v1 := hl.cell 1
  have l2 : w.cell? ⟨bl, 2, none⟩ = some v2 := hl.cell 2
  have fl := hl.free
  obtain ⟨hne1, hne2⟩ := hne
  rcases nil_or_snoc R with rfl | ⟨R', ⟨b', s'⟩, rfl⟩
  · have H0 := Lib.hid (And.intro h hl)
    simp only [hd?, lastOr, List.head?_nil, Option.map_none, List.getLast?_nil, pv] at s2 s3
    clear h hl
    go_enter Try.func47, Try.ntmps47
    go_wp2_with fail
    go_end0
    obtain ⟨h, hl⟩ := H0.out
    refine ⟨rfl, ⟨?_, ⟨?_, trivial⟩, by simp, fun x hx => ?_⟩, ?_⟩
    · refine Blk.cast (((((h.bd.setOther (show bs ≠ bl from Ne.symm hne1) _).setOther (show bs ≠ bl from Ne.symm hne1) _).set 2 _).set 3 _)) ?_
      simp [setC, hd?, lastOr, pv]
    · refine Blk.cast (((((hl.set 1 _).set 2 _).setOther (show bl ≠ bs from hne1) _).setOther (show bl ≠ bs from hne1) _)) ?_
      simp [nodeC, hd?, pv]
    · simp at hx; subst hx; exact ⟨hne1, hne2⟩
    · exact (((((KeepsO.refl _ w).set (a := ⟨bl, 1, none⟩) (.inr (by simp)) _).set (a := ⟨bl, 2, none⟩) (.inr (by simp)) _).set (a := ⟨bs, 2, none⟩) (.inl rfl) _).set (a := ⟨bs, 3, none⟩) (.inl rfl) _)
  · have hb' := h.ch.last
    have hm' : (b', s') ∈ R' ++ [(b', s')] := by simp
    have hbs : b' ≠ bs := (h.ne _ hm').1
    have hbl : b' ≠ bl := fun e => hnR (by rw [← e]; exact List.mem_map_of_mem hm')
    have p2 : w.cell? ⟨b', 2, none⟩ = some (pv none) := hb'.cell 2
    have fp := hb'.free
    rw [lastOr_snoc] at s3
    simp only [Option.map_some, Option.map_none, pv] at s3 p2
    have H0 := Lib.hid (And.intro h (And.intro hl (And.intro hb' hnR)))
    clear h hl hb' hm' s2 hnR
    go_enter Try.func47, Try.ntmps47
    go_wp2_with fail
    go_end0
    obtain ⟨h, hl, hb', hnR⟩ := H0.out
    refine ⟨rfl, ⟨?_, ?_, ?_, fun x hx => ?_⟩, ?_⟩
    · refine Blk.cast (((((h.bd.setOther (show bs ≠ bl from Ne.symm hne1) _).setOther (show bs ≠ bl from Ne.symm hne1) _).setOther (show bs ≠ b' from Ne.symm hbs) _).set 3 _)) ?_
      unfold setC
      rw [hd_snoc2, show lastOr none (R' ++ [(b', s')] ++ [(bl, s)]) = some bl from lastOr_snoc _ _ _]
      simp [pv]
    · refine Chain.snoc h.ch (fun x hx hlt => ?_) ?_ ?_
      · have hx1 : x.1 ≠ bl := fun e => hnR (by rw [← e]; exact List.mem_map_of_mem (by simp [hx]))
        have hx2 : x.1 ≠ b' := by
          have hnd := h.nd
          rw [List.map_append, List.nodup_append] at hnd
          exact fun e => hnd.2.2 x.1 (List.mem_map_of_mem hx) b' (by simp) e
        have hx3 : x.1 ≠ bs := (h.ne x (by simp [hx])).1
        rw [Below.heap_setCell _ _ _ _ hx3, Below.heap_setCell _ _ _ _ hx2, Below.heap_setCell _ _ _ _ hx1, Below.heap_setCell _ _ _ _ hx1]
      · refine Blk.cast (((((hb'.setOther (show b' ≠ bl from hbl) _).setOther (show b' ≠ bl from hbl) _).set 2 _).setOther (show b' ≠ bs from hbs) _)) ?_
        simp [nodeC, pv]
      · refine Blk.cast (((((hl.set 1 _).set 2 _).setOther (show bl ≠ b' from Ne.symm hbl) _).setOther (show bl ≠ bs from hne1) _)) ?_
        simp [nodeC, pv]
    · rw [List.map_append, List.nodup_append]
      refine ⟨h.nd, by simp, fun x hx y hy e => ?_⟩
      simp only [List.map_cons, List.map_nil, List.mem_singleton] at hy
      subst hy; subst e
      exact hnR hx
    · rcases List.mem_append.1 hx with hx | hx
      · exact h.ne x hx
      · simp at hx; subst hx; exact ⟨hne1, hne2⟩
    · exact (((((KeepsO.refl _ w).set (a := ⟨bl, 1, none⟩) (.inr (by simp)) _).set (a := ⟨bl, 2, none⟩) (.inr (by simp)) _).set (a := ⟨b', 2, none⟩) (.inr (by simp)) _).set (a := ⟨bs, 3, none⟩) (.inl rfl) _)

set_option maxRecDepth 100000 in
set_option maxHeartbeats 1000000 in
/-- The eldest is pulled, where others stand behind it. -/
theorem known_pull {bs bm room : Nat} {w : World} {b b2 : Nat} {s s2 : List UInt8} {R : List (Nat × List UInt8)} (h : RowAt bs bm room w ((b, s) :: (b2, s2) :: R)) :
    Calls Try.prog 48 #[.pointer (some ⟨bs, 0, none⟩), .pointer (some ⟨b, 0, none⟩)] w fun en w' => en = .returned (.tuple #[]) ∧ RowAt bs bm room w' ((b2, s2) :: R) ∧ Blk w' b (nodeC none s (some b2)) 104 ∧ KeepsO (RowR bs ((b, s) :: (b2, s2) :: R)) w w' := by
  obtain ⟨h1, h2, h3⟩ := h.ch
  have hnd := h.nd
  simp only [List.map_cons, List.nodup_cons, List.mem_cons, not_or] at hnd
  have n1 : b ≠ bs := (h.ne (b, s) (by simp)).1
  have n2 : b2 ≠ bs := (h.ne (b2, s2) (by simp)).1
  have n3 : b2 ≠ b := fun e => hnd.1.1 e.symm
  have n4 : ∀ x ∈ R, x.1 ≠ b2 := fun x hx e => hnd.2.1 (by rw [← e]; exact List.mem_map_of_mem hx)
  have e1 : w.cell? ⟨b, 1, none⟩ = some (.pointer none) := h1.cell 1
  have e2 : w.cell? ⟨b, 2, none⟩ = some (.pointer (some ⟨b2, 0, none⟩)) := h1.cell 2
  have g1 : w.cell? ⟨b2, 1, none⟩ = some (.pointer (some ⟨b, 0, none⟩)) := h2.cell 1
  have fg := h2.free
  have s2' : w.cell? ⟨bs, 2, none⟩ = some (.pointer (some ⟨b, 0, none⟩)) := h.bd.cell 2
  have fs := h.bd.free
  have H0 := Lib.hid (And.intro h (And.intro h1 (And.intro h2 (And.intro h3 (And.intro hnd n4)))))
  clear h h1 h2 h3 hnd n4
  go_enter Try.func48, Try.ntmps48
  go_upto_region 5 with fail
  refine wp_region_drew_tail 10 (by kernel_rfl) (by kernel_rfl) ?_
  simp only [List.take_succ_cons, List.take_zero, List.drop_succ_cons, List.drop_zero]
  repeat (go_big_quiet_step (fail))
  refine wpQuiet_nil ?_
  intro k10
  go_wp2_with fail
  go_end0
  obtain ⟨h, h1, h2, h3, hnd, n4⟩ := H0.out
  refine ⟨rfl, ⟨?_, ⟨?_, ?_⟩, ?_, fun x hx => h.ne x (List.mem_cons_of_mem _ hx)⟩, ?_, ?_⟩
  · refine Blk.cast ((((h.bd.set 2 _).drewN _).setOther (show bs ≠ b2 from Ne.symm n2) _)) ?_
    unfold setC
    rw [lastOr_cons, lastOr_cons, lastOr_cons]
    simp [pv, hd?]
  · refine Blk.cast ((((h2.setOther (show b2 ≠ bs from n2) _).drewN _).set 1 _)) ?_
    simp [nodeC, pv]
  · refine Chain.kept h3 fun x hx _ => ?_
    have hx1 : x.1 ≠ b2 := n4 x hx
    have hx2 : x.1 ≠ bs := (h.ne x (by simp [hx])).1
    rw [Below.heap_setCell _ _ _ _ hx1]
    show (w.setCell _ _).heap[x.1]? = _
    rw [Below.heap_setCell _ _ _ _ hx2]
  · have := h.nd
    simp only [List.map_cons, List.nodup_cons] at this ⊢
    exact this.2
  · exact (((h1.setOther (show b ≠ bs from n1) _).drewN _).setOther (show b ≠ b2 from Ne.symm n3) _)
  · exact ((((KeepsO.refl _ w).set (a := ⟨bs, 2, none⟩) (.inl rfl) _).drewN _).set (a := ⟨b2, 1, none⟩) (.inr (by simp)) _)

/-- The whole set in memory. -/
structure SetAt (bs bm n room : Nat) (w : World) (R : List (Nat × List UInt8)) : Prop where
  row : RowAt bs bm room w R
  mp : PMap Try.prog 9 w bm n R.length (fun s => (R.find? (fun x => x.2 == s)).map Prod.fst)
  nd : (R.map Prod.snd).Nodup
  hb : bs ≠ bm
  szs : ∀ x ∈ R, x.2.length ≤ 1000
theorem SetAt.lt {bs bm n room : Nat} {w : World} {R : List (Nat × List UInt8)} (h : SetAt bs bm n room w R) : ∀ i, OwnR bs bm R i → i < w.heap.size := by
  intro i hi
  rcases hi with rfl | rfl | hi
  · exact h.row.bd.lt
  · exact h.mp.lt
  · obtain ⟨x, hx, rfl⟩ := List.mem_map.1 hi
    exact h.row.ch.lt x hx
theorem RowAt.kept {bs bm room : Nat} {w w' : World} {R : List (Nat × List UInt8)} (h : RowAt bs bm room w R) (hk : ∀ i, i < w.heap.size → OwnR bs bm R i → i ≠ bm → w'.heap[i]? = w.heap[i]?) (hb : bs ≠ bm) : RowAt bs bm room w' R :=
  ⟨by unfold Blk; rw [hk bs h.bd.lt (.inl rfl) hb]; exact h.bd, h.ch.kept fun x hx hlt => hk x.1 hlt (.inr (.inr (List.mem_map_of_mem hx))) (h.ne x hx).2, h.nd, h.ne⟩
theorem SetAt.below {bs bm n room : Nat} {w w' : World} {R : List (Nat × List UInt8)} (h : SetAt bs bm n room w R) (hb : Below w.heap.size w w') : SetAt bs bm n room w' R :=
  ⟨h.row.kept (fun i hi _ _ => hb.block i hi) h.hb, h.mp.below hb, h.nd, h.hb, h.szs⟩
theorem SetAt.drewN {bs bm n room : Nat} {w : World} {R : List (Nat × List UInt8)} (h : SetAt bs bm n room w R) (k : Nat) : SetAt bs bm n room (w.drewN k) R :=
  ⟨h.row.kept (fun i hi _ _ => rfl) h.hb, h.mp.block rfl, h.nd, h.hb, h.szs⟩
/-- Blocks of others may turn. -/
theorem SetAt.other {bs bm n room : Nat} {w w' : World} {R : List (Nat × List UInt8)} (h : SetAt bs bm n room w R) (hk : ∀ i, OwnR bs bm R i → w'.heap[i]? = w.heap[i]?) : SetAt bs bm n room w' R :=
  ⟨h.row.kept (fun i _ ho _ => hk i ho) h.hb, h.mp.block (hk bm (.inr (.inl rfl))), h.nd, h.hb, h.szs⟩
def hasR (R : List (Nat × List UInt8)) (s : List UInt8) : Bool := R.any fun x => x.2 == s
theorem find_has (R : List (Nat × List UInt8)) (s : List UInt8) : ((R.find? (fun x => x.2 == s)).map Prod.fst).isSome = hasR R s := by
  unfold hasR
  rw [Option.isSome_map, Bool.eq_iff_iff, List.find?_isSome, List.any_eq_true]
theorem find_snoc {R : List (Nat × List UInt8)} {s : List UInt8} {bl : Nat} (h : hasR R s = false) : (fun x => ((R ++ [(bl, s)]).find? (fun y => y.2 == x)).map Prod.fst) = putM (fun x => (R.find? (fun y => y.2 == x)).map Prod.fst) s (some bl) := by
  funext x
  unfold putM
  rw [List.find?_append]
  by_cases hx : x = s
  · subst hx
    rw [if_pos rfl]
    have h1 : R.find? (fun y => y.2 == x) = none := by
      rw [List.find?_eq_none]
      intro y hy
      unfold hasR at h
      rw [List.any_eq_false] at h
      simpa using h y hy
    rw [h1]; simp
  · rw [if_neg hx]
    have hsx : (s == x) = false := by rw [beq_eq_false_iff_ne]; exact fun e => hx e.symm
    have h2 : [(bl, s)].find? (fun y => y.2 == x) = none := by
      simp only [List.find?_cons, hsx, List.find?_nil]
    rw [h2, Option.or_none]
theorem find_tail {b : Nat} {s : List UInt8} {R : List (Nat × List UInt8)} (hn : s ∉ R.map Prod.snd) : (fun x => (R.find? (fun y => y.2 == x)).map Prod.fst) = putM (fun x => (((b, s) :: R).find? (fun y => y.2 == x)).map Prod.fst) s none := by
  funext x
  show (R.find? (fun y => y.2 == x)).map Prod.fst = if x = s then none else (((b, s) :: R).find? (fun y => y.2 == x)).map Prod.fst
  rw [List.find?_cons]
  by_cases hx : x = s
  · subst hx
    rw [if_pos rfl]
    have h1 : R.find? (fun y => y.2 == x) = none := by
      rw [List.find?_eq_none]
      intro y hy he
      have : y.2 = x := by simpa using he
      exact hn (List.mem_map.2 ⟨y, hy, this⟩)
    rw [h1]; rfl
  · rw [if_neg hx]
    have hsx : (s == x) = false := by rw [beq_eq_false_iff_ne]; exact fun e => hx e.symm
    simp only [hsx]
end Go.Proofs.Ytemfecdpjegocaa
