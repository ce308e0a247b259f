/- known: a link is pulled out of wherever it stands in the row. -/
import Derived.Test.YtemfecdpjegocaaKnownSet
namespace Go.Proofs.Ytemfecdpjegocaa
open Go.RowKit
set_option linter.unusedVariables false
set_option linter.unusedSimpArgs false

/-- A part of a row, before which p stands, and behind which n. -/
def Seg (w : World) : Option Nat → List (Nat × List UInt8) → Option Nat → Prop
  | _, [], _ => True
  | p, (b, s) :: r, n => Blk w b (nodeC p s ((hd? r).or n)) 104 ∧ Seg w (some b) r n
theorem hd_or (A B : List (Nat × List UInt8)) : hd? (A ++ B) = (hd? A).or (hd? B) := by cases A <;> rfl
theorem chain_app {w : World} {B : List (Nat × List UInt8)} : ∀ {p : Option Nat} {A : List (Nat × List UInt8)}, Chain w p (A ++ B) ↔ Seg w p A (hd? B) ∧ Chain w (lastOr p A) B
  | p, [] => ⟨fun h => ⟨trivial, h⟩, fun h => h.2⟩
  | p, (b, s) :: r => by
    rw [lastOr_cons]
    show (Blk w b (nodeC p s (hd? (r ++ B))) _ ∧ Chain w (some b) (r ++ B)) ↔ (Blk w b (nodeC p s ((hd? r).or (hd? B))) _ ∧ Seg w (some b) r (hd? B)) ∧ _
    rw [hd_or, chain_app, and_assoc]
theorem seg_app {w : World} {B : List (Nat × List UInt8)} {n : Option Nat} : ∀ {p : Option Nat} {A : List (Nat × List UInt8)}, Seg w p (A ++ B) n ↔ Seg w p A ((hd? B).or n) ∧ Seg w (lastOr p A) B n
  | p, [] => ⟨fun h => ⟨trivial, h⟩, fun h => h.2⟩
  | p, (b, s) :: r => by
    rw [lastOr_cons]
    show (Blk w b (nodeC p s ((hd? (r ++ B)).or n)) _ ∧ Seg w (some b) (r ++ B) n) ↔ (Blk w b (nodeC p s ((hd? r).or ((hd? B).or n))) _ ∧ Seg w (some b) r ((hd? B).or n)) ∧ _
    rw [hd_or, seg_app, Option.or_assoc, and_assoc]
theorem Seg.kept {w w' : World} {n : Option Nat} : ∀ {p : Option Nat} {R : List (Nat × List UInt8)}, Seg w p R n → (∀ x ∈ R, x.1 < w.heap.size → w'.heap[x.1]? = w.heap[x.1]?) → Seg w' p R n
  | _, [], _, _ => trivial
  | p, (b, s) :: r, ⟨h1, h2⟩, hk => ⟨by unfold Blk; rw [hk (b, s) (by simp) h1.lt]; exact h1, Seg.kept h2 fun x hx => hk x (by simp [hx])⟩

/-- What pull leaves. -/
def Pulled (bs bm room b : Nat) (s : List UInt8) (R1 R2 : List (Nat × List UInt8)) (w w' : World) : Prop :=
  RowAt bs bm room w' (R1 ++ R2) ∧ Blk w' b (nodeC (lastOr none R1) s (hd? R2)) 104 ∧ KeepsO (RowR bs (R1 ++ (b, s) :: R2)) w w'

theorem nd_parts {R1 R2 : List (Nat × List UInt8)} {x : Nat × List UInt8} (h : ((R1 ++ x :: R2).map Prod.fst).Nodup) : ((R1 ++ R2).map Prod.fst).Nodup ∧ (∀ y ∈ R1, y.1 ≠ x.1) ∧ (∀ y ∈ R2, y.1 ≠ x.1) ∧ (∀ y ∈ R1, ∀ z ∈ R2, y.1 ≠ z.1) := by
  rw [List.map_append, List.map_cons, List.nodup_append] at h
  obtain ⟨h1, h2, h3⟩ := h
  rw [List.nodup_cons] at h2
  refine ⟨?_, fun y hy e => h3 y.1 (List.mem_map_of_mem hy) x.1 (by simp) e, fun y hy e => h2.1 (by rw [← e]; exact List.mem_map_of_mem hy), fun y hy z hz e => h3 y.1 (List.mem_map_of_mem hy) z.1 (List.mem_cons_of_mem _ (List.mem_map_of_mem hz)) e⟩
  rw [List.map_append, List.nodup_append]
  exact ⟨h1, h2.2, fun a ha b hb e => h3 a ha b (List.mem_cons_of_mem _ hb) e⟩

set_option maxRecDepth 100000 in
set_option maxHeartbeats 1000000 in
/-- The only one. -/
theorem pull_sole {bs bm room : Nat} {w : World} {b : Nat} {s : List UInt8} (h : RowAt bs bm room w ([] ++ (b, s) :: [])) :
    Calls Try.prog 48 #[.pointer (some ⟨bs, 0, none⟩), .pointer (some ⟨b, 0, none⟩)] w fun en w' => en = .returned (.tuple #[]) ∧ Pulled bs bm room b s [] [] w w' := by
  have h1 := h.ch.1
  have n1 : b ≠ bs := (h.ne (b, s) (by simp)).1
  have e1 : w.cell? ⟨b, 1, none⟩ = some (.pointer none) := h1.cell 1
  have e2 : w.cell? ⟨b, 2, none⟩ = some (.pointer none) := h1.cell 2
  have fs := h.bd.free
  have s2 : w.cell? ⟨bs, 2, none⟩ = some (.pointer (some ⟨b, 0, none⟩)) := h.bd.cell 2
  have s3 : w.cell? ⟨bs, 3, none⟩ = some (.pointer (some ⟨b, 0, none⟩)) := h.bd.cell 3
  have H0 := Lib.hid (And.intro h h1)
  clear h h1
  go_enter Try.func48, Try.ntmps48
  go_wp2_with fail
  go_end0
  obtain ⟨h, h1⟩ := H0.out
  refine ⟨rfl, ⟨?_, trivial, by simp, fun x hx => by cases hx⟩, ?_, ?_⟩
  · refine Blk.cast ((h.bd.set 2 _).set 3 _) ?_
    simp [setC, pv, hd?, lastOr]
  · exact (h1.setOther (show b ≠ bs from n1) _).setOther (show b ≠ bs from n1) _
  · exact (((KeepsO.refl _ w).set (a := ⟨bs, 2, none⟩) (.inl rfl) _).set (a := ⟨bs, 3, none⟩) (.inl rfl) _)

set_option maxRecDepth 100000 in
set_option maxHeartbeats 1000000 in
/-- The latest of more. -/
theorem pull_latest {bs bm room : Nat} {w : World} {b b1 : Nat} {s s1 : List UInt8} {R : List (Nat × List UInt8)} (h : RowAt bs bm room w ((R ++ [(b1, s1)]) ++ (b, s) :: [])) :
    Calls Try.prog 48 #[.pointer (some ⟨bs, 0, none⟩), .pointer (some ⟨b, 0, none⟩)] w fun en w' => en = .returned (.tuple #[]) ∧ Pulled bs bm room b s (R ++ [(b1, s1)]) [] w w' := by
  obtain ⟨hq1, hq2⟩ := chain_app.1 h.ch
  obtain ⟨hq3, hq4⟩ := seg_app.1 hq1
  obtain ⟨hnd1, hnd2, hnd3, hnd4⟩ := nd_parts h.nd
  rw [lastOr_snoc] at hq2
  have h1 := hq2.1
  have h2 := hq4.1
  have n1 : b ≠ bs := (h.ne (b, s) (by simp)).1
  have n2 : b1 ≠ bs := (h.ne (b1, s1) (by simp)).1
  have n3 : b1 ≠ b := hnd2 (b1, s1) (by simp)
  have n4 : ∀ x ∈ R, x.1 ≠ b1 := fun x hx e => by
    rw [List.append_nil, List.map_append, List.nodup_append] at hnd1
    exact hnd1.2.2 x.1 (List.mem_map_of_mem hx) b1 (by simp) e
  have e1 : w.cell? ⟨b, 1, none⟩ = some (.pointer (some ⟨b1, 0, none⟩)) := h1.cell 1
  have e2 : w.cell? ⟨b, 2, none⟩ = some (.pointer none) := h1.cell 2
  have g2 : w.cell? ⟨b1, 2, none⟩ = some (.pointer (some ⟨b, 0, none⟩)) := h2.cell 2
  have fg := h2.free
  have fs := h.bd.free
  have s3 : w.cell? ⟨bs, 3, none⟩ = some (pv (lastOr none (R ++ [(b1, s1)] ++ [(b, s)]))) := h.bd.cell 3
  rw [lastOr_snoc] at s3
  have H0 := Lib.hid (And.intro h (And.intro h1 (And.intro h2 (And.intro hq3 (And.intro hnd1 n4)))))
  clear h h1 h2 hq1 hq2 hq3 hq4 hnd1 hnd2 hnd3 hnd4 n4
  go_enter Try.func48, Try.ntmps48
  go_upto_region 2 with fail
  refine wp_region_drew_tail 10 (by kernel_rfl) (by kernel_rfl) ?_
  simp only [List.take_succ_cons, List.take_zero, List.drop_succ_cons, List.drop_zero]
  repeat (go_big_quiet_step (fail))
  refine wpQuiet_nil ?_
  intro k10
  go_wp2_with fail
  go_end0
  obtain ⟨h, h1, h2, h3, hnd, n4⟩ := H0.out
  refine ⟨rfl, ⟨?_, ?_, hnd, fun x hx => h.ne x (by rw [List.append_nil] at hx; exact List.mem_append_left _ hx)⟩, ?_, ?_⟩
  · refine Blk.cast ((((h.bd.drewN _).setOther (show bs ≠ b1 from Ne.symm n2) _).set 3 _)) ?_
    unfold setC
    rw [List.append_nil, lastOr_snoc, lastOr_snoc, hd_snoc2]
    simp [pv]
  · rw [List.append_nil, chain_app]
    refine ⟨h3.kept fun x hx _ => ?_, ?_, trivial⟩
    · have hx1 : x.1 ≠ b1 := n4 x hx
      have hx2 : x.1 ≠ bs := (h.ne x (by simp [hx])).1
      rw [Below.heap_setCell _ _ _ _ hx2, Below.heap_setCell _ _ _ _ hx1]
      rfl
    · refine Blk.cast ((((h2.drewN _).set 2 _).setOther (show b1 ≠ bs from n2) _)) ?_
      simp [nodeC, pv, hd?]
  · rw [lastOr_snoc]
    exact (((h1.drewN _).setOther (show b ≠ b1 from Ne.symm n3) _).setOther (show b ≠ bs from n1) _)
  · exact ((((KeepsO.refl _ w).drewN _).set (a := ⟨b1, 2, none⟩) (.inr (by simp)) _).set (a := ⟨bs, 3, none⟩) (.inl rfl) _)

set_option maxRecDepth 100000 in
set_option maxHeartbeats 1000000 in
/-- One amidst. -/
theorem pull_amidst {bs bm room : Nat} {w : World} {b b1 b2 : Nat} {s s1 s2 : List UInt8} {R R2 : List (Nat × List UInt8)} (h : RowAt bs bm room w ((R ++ [(b1, s1)]) ++ (b, s) :: (b2, s2) :: R2)) :
    Calls Try.prog 48 #[.pointer (some ⟨bs, 0, none⟩), .pointer (some ⟨b, 0, none⟩)] w fun en w' => en = .returned (.tuple #[]) ∧ Pulled bs bm room b s (R ++ [(b1, s1)]) ((b2, s2) :: R2) w w' := by
  obtain ⟨hq1, hq2⟩ := chain_app.1 h.ch
  obtain ⟨hq3, hq4⟩ := seg_app.1 hq1
  obtain ⟨hnd1, hnd2, hnd3, hnd4⟩ := nd_parts h.nd
  rw [lastOr_snoc] at hq2
  obtain ⟨h1, h5, h6⟩ := hq2
  have h2 := hq4.1
  have n1 : b ≠ bs := (h.ne (b, s) (by simp)).1
  have n2 : b1 ≠ bs := (h.ne (b1, s1) (by simp)).1
  have n2' : b2 ≠ bs := (h.ne (b2, s2) (by simp)).1
  have n3 : b1 ≠ b := hnd2 (b1, s1) (by simp)
  have n3' : b2 ≠ b := hnd3 (b2, s2) (by simp)
  have n5 : b1 ≠ b2 := hnd4 (b1, s1) (by simp) (b2, s2) (by simp)
  have hh := hnd1
  rw [List.append_assoc, List.map_append, List.nodup_append] at hh
  have n4 : ∀ x ∈ R, x.1 ≠ b1 ∧ x.1 ≠ b2 := fun x hx => ⟨fun e => hh.2.2 x.1 (List.mem_map_of_mem hx) b1 (by simp) e, fun e => hh.2.2 x.1 (List.mem_map_of_mem hx) b2 (by simp) e⟩
  have n6 : ∀ x ∈ R2, x.1 ≠ b1 ∧ x.1 ≠ b2 := fun x hx => ⟨fun e => hnd4 (b1, s1) (by simp) x (by simp [hx]) e.symm, fun e => by
    have := hh.2.1
    simp only [List.map_append, List.map_cons, List.map_nil, List.cons_append, List.nil_append, List.nodup_cons] at this
    exact this.2.1 (by rw [← e]; exact List.mem_map_of_mem hx)⟩
  have e1 : w.cell? ⟨b, 1, none⟩ = some (.pointer (some ⟨b1, 0, none⟩)) := h1.cell 1
  have e2 : w.cell? ⟨b, 2, none⟩ = some (.pointer (some ⟨b2, 0, none⟩)) := h1.cell 2
  have g2 : w.cell? ⟨b1, 2, none⟩ = some (.pointer (some ⟨b, 0, none⟩)) := h2.cell 2
  have g1 : w.cell? ⟨b2, 1, none⟩ = some (.pointer (some ⟨b, 0, none⟩)) := h5.cell 1
  have fg := h2.free
  have fg5 := h5.free
  have H0 := Lib.hid (And.intro h (And.intro h1 (And.intro h2 (And.intro hq3 (And.intro hnd1 (And.intro n4 (And.intro h5 (And.intro h6 n6))))))))
  clear h h1 h2 hq1 hq3 hq4 hnd1 hnd2 hnd3 hnd4 n4 hh n6 h5 h6
  go_enter Try.func48, Try.ntmps48
  go_upto_region 2 with fail
  refine wp_region_drew_tail 10 (by kernel_rfl) (by kernel_rfl) ?_
  simp only [List.take_succ_cons, List.take_zero, List.drop_succ_cons, List.drop_zero]
  repeat (go_big_quiet_step (fail))
  refine wpQuiet_nil ?_
  intro k10
  go_upto_region 5 with fail
  refine wp_region_drew_tail 10 (by kernel_rfl) (by kernel_rfl) ?_
  simp only [List.take_succ_cons, List.take_zero, List.drop_succ_cons, List.drop_zero]
  repeat (go_big_quiet_step (fail))
  refine wpQuiet_nil ?_
  intro k11
  go_wp2_with fail
  go_end0
  obtain ⟨h, h1, h2, h3, hnd, n4, h5, h6, n6⟩ := H0.out
  refine ⟨rfl, ⟨?_, ?_, hnd, fun x hx => h.ne x ?_⟩, ?_, ?_⟩
  · refine Blk.cast (((((h.bd.drewN _).setOther (show bs ≠ b1 from Ne.symm n2) _).drewN _).setOther (show bs ≠ b2 from Ne.symm n2') _)) ?_
    unfold setC
    have e1 : hd? (R ++ [(b1, s1)] ++ (b, s) :: (b2, s2) :: R2) = hd? (R ++ [(b1, s1)] ++ (b2, s2) :: R2) := by cases R <;> rfl
    have e2 : lastOr none (R ++ [(b1, s1)] ++ (b, s) :: (b2, s2) :: R2) = lastOr none (R ++ [(b1, s1)] ++ (b2, s2) :: R2) := by
      unfold lastOr; simp [List.getLast?_append, List.getLast?_cons]
    rw [e1, e2]
  · rw [chain_app, seg_app, lastOr_snoc]
    refine ⟨⟨h3.kept fun x hx _ => ?_, ?_, trivial⟩, ?_, h6.kept fun x hx _ => ?_⟩
    · have hx1 := n4 x hx
      have hx2 : x.1 ≠ bs := (h.ne x (by simp [hx])).1
      rw [Below.heap_setCell _ _ _ _ hx1.2]
      show (World.setCell _ _ _).heap[x.1]? = _
      rw [Below.heap_setCell _ _ _ _ hx1.1]
      rfl
    · refine Blk.cast (((((h2.drewN _).set 2 _).drewN _).setOther (show b1 ≠ b2 from n5) _)) ?_
      simp [nodeC, pv, hd?]
    · refine Blk.cast (((((h5.drewN _).setOther (show b2 ≠ b1 from Ne.symm n5) _).drewN _).set 1 _)) ?_
      simp [nodeC, pv]
    · have hx1 := n6 x hx
      rw [Below.heap_setCell _ _ _ _ hx1.2]
      show (World.setCell _ _ _).heap[x.1]? = _
      rw [Below.heap_setCell _ _ _ _ hx1.1]
      rfl
  · rcases List.mem_append.1 hx with hx | hx
    · exact List.mem_append_left _ hx
    · exact List.mem_append_right _ (List.mem_cons_of_mem _ hx)
  · rw [lastOr_snoc]
    exact ((((h1.drewN _).setOther (show b ≠ b1 from Ne.symm n3) _).drewN _).setOther (show b ≠ b2 from Ne.symm n3') _)
  · exact (((((KeepsO.refl _ w).drewN _).set (a := ⟨b1, 2, none⟩) (.inr (by simp)) _).drewN _).set (a := ⟨b2, 1, none⟩) (.inr (by simp)) _)

theorem pull_any {bs bm room : Nat} {w : World} {b : Nat} {s : List UInt8} {R1 R2 : List (Nat × List UInt8)} (h : RowAt bs bm room w (R1 ++ (b, s) :: R2)) :
    Calls Try.prog 48 #[.pointer (some ⟨bs, 0, none⟩), .pointer (some ⟨b, 0, none⟩)] w fun en w' => en = .returned (.tuple #[]) ∧ Pulled bs bm room b s R1 R2 w w' := by
  rcases nil_or_snoc R1 with rfl | ⟨R, ⟨b1, s1⟩, rfl⟩
  · rcases R2 with _ | ⟨⟨b2, s2⟩, R2⟩
    · exact pull_sole h
    · exact (known_pull h).mono fun en w' ⟨h1, h2, h3, h4⟩ => ⟨h1, h2, h3, h4⟩
  · rcases R2 with _ | ⟨⟨b2, s2⟩, R2⟩
    · exact pull_latest h
    · exact pull_amidst h
end Go.Proofs.Ytemfecdpjegocaa
