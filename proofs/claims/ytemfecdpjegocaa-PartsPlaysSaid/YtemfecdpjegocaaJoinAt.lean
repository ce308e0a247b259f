/- The joiner in memory; NewJoiner, Drop. -/
import Derived.Test.YtemfecdpjegocaaJoinPlain
import Derived.Test.YtemfecdpjegocaaKeepsO
namespace Go.Proofs.Ytemfecdpjegocaa
open Go.RowKit Go.Maps
set_option linter.unusedVariables false
set_option linter.unusedSimpArgs false

def kI : KEnc Try.prog 3 Int := intKeys (q := .i64) Try.underlying3
theorem bodies_t : Try.prog.underlying 120 = some (.map 3 124) := Try.underlying120
theorem of_t : Try.prog.underlying 121 = some (.map 3 3) := Try.underlying121
theorem body_t : Try.prog.underlying 124 = some (.map 3 9) := Try.underlying124
theorem bodies_z (w : World) : (zeroValue 124).run Try.prog w = .ok (mapElems.ev none) w := by kernel_rfl
theorem of_z (w : World) : (zeroValue 3).run Try.prog w = .ok ((intElems .i64).ev 0) w := by kernel_rfl
theorem body_z (w : World) : (zeroValue 9).run Try.prog w = .ok (strElems.ev ByteArray.empty) w := by kernel_rfl

/-- The joiner in memory: just the parts L are there. -/
structure JAt (B bj bb bo n : Nat) (f : Int → Nat) (most open_ : Int) (w : World) (L : List Pt) : Prop where
  bd : Blk w bj #[.int .i64 most, .int .i64 open_, .int .i64 (usedL L : Nat), .map (some bb), .map (some bo)] 123
  mb : LMap kI mapElems w bb n ((idsL L).map fun i => (i, some (f i)))
  mo : LMap kI (intElems .i64) w bo n ((idsL L).map fun i => (i, ofL L i))
  ps : ∀ i ∈ idsL L, LMap kI strElems w (f i) n (partsOf L i)
  ne : bj ≠ bb ∧ bj ≠ bo ∧ bb ≠ bo
  nf : ∀ i ∈ idsL L, f i ≠ bj ∧ f i ≠ bb ∧ f i ≠ bo
  inj : ∀ i ∈ idsL L, ∀ j ∈ idsL L, f i = f j → i = j
  lo : B ≤ bj ∧ B ≤ bb ∧ B ≤ bo ∧ ∀ i ∈ idsL L, B ≤ f i
  may : ∀ p ∈ L, mayP p
  of1 : ∀ p ∈ L, p.of_ = ofL L p.id
def OwnJ (bj bb bo : Nat) (f : Int → Nat) (L : List Pt) (b : Nat) : Prop := b = bj ∨ b = bb ∨ b = bo ∨ ∃ i ∈ idsL L, b = f i
section
variable {B bj bb bo n : Nat} {f : Int → Nat} {most open_ : Int} {w : World} {L : List Pt}
theorem JAt.other {w' : World} (h : JAt B bj bb bo n f most open_ w L) (hk : ∀ b, OwnJ bj bb bo f L b → b < w.heap.size → w'.heap[b]? = w.heap[b]?) : JAt B bj bb bo n f most open_ w' L :=
  ⟨by unfold Blk; rw [hk bj (.inl rfl) h.bd.lt]; exact h.bd, h.mb.block (hk bb (.inr (.inl rfl)) h.mb.lt), h.mo.block (hk bo (.inr (.inr (.inl rfl))) h.mo.lt),
    fun i hi => (h.ps i hi).block (hk (f i) (.inr (.inr (.inr ⟨i, hi, rfl⟩))) (h.ps i hi).lt), h.ne, h.nf, h.inj, h.lo, h.may, h.of1⟩
theorem JAt.below {w' : World} (h : JAt B bj bb bo n f most open_ w L) (hb : Below w.heap.size w w') : JAt B bj bb bo n f most open_ w' L := h.other fun b _ hlt => hb.block b hlt
theorem JAt.drewN (h : JAt B bj bb bo n f most open_ w L) (k : Nat) : JAt B bj bb bo n f most open_ (w.drewN k) L := h.other fun b _ _ => rfl
theorem JAt.lt (h : JAt B bj bb bo n f most open_ w L) : ∀ b, OwnJ bj bb bo f L b → b < w.heap.size := by
  rintro b (rfl | rfl | rfl | ⟨i, hi, rfl⟩)
  · exact h.bd.lt
  · exact h.mb.lt
  · exact h.mo.lt
  · exact (h.ps i hi).lt
theorem JAt.up (h : JAt B bj bb bo n f most open_ w L) {m : Nat} (hm : n ≤ m) : JAt B bj bb bo m f most open_ w L := ⟨h.bd, h.mb.up hm, h.mo.up hm, fun i hi => (h.ps i hi).up hm, h.ne, h.nf, h.inj, h.lo, h.may, h.of1⟩
theorem getL_ids {X : Type} (l : List Int) (g : Int → X) (hn : l.Nodup) (x : Int) : getL (l.map fun i => (i, g i)) x = if x ∈ l then some (g x) else none := by
  have hn' : ((l.map fun i => (i, g i)).map Prod.fst).Nodup := by rw [List.map_map]; simpa [Function.comp_def] using hn
  by_cases h : x ∈ l
  · rw [if_pos h]; exact (getL_some hn').2 (List.mem_map.2 ⟨x, h, rfl⟩)
  · rw [if_neg h]; refine getL_none.2 ?_
    rw [List.map_map]; simpa [Function.comp_def] using h
theorem okI {x : Int} (h : 0 ≤ x ∧ x ≤ 2147483647) : kI.ok x := by
  show (Lit.int .i64 x).wf = true
  simp [Lit.wf, IntKind.min, IntKind.max, IntKind.signed, IntKind.bits]; omega
end

set_option maxRecDepth 100000 in
theorem new_joiner (most open_ : Int) (w : World) (h : 0 ≤ most ∧ most ≤ 1073741824 ∧ 1 ≤ open_ ∧ open_ ≤ 32) :
    Calls Try.prog 36 #[.int .i64 most, .int .i64 open_] w fun en w' => en = .returned (.tuple #[.pointer (some ⟨w.heap.size + 2, 0, none⟩), .int .i64 0]) ∧ JAt w.heap.size (w.heap.size + 2) w.heap.size (w.heap.size + 1) 0 (fun _ => 0) most open_ w' [] ∧ Below w.heap.size w w' := by
  have hmm := @run_makeMap Try.prog
  have d0 : decide (most < 0) = false := by simp; omega
  have d1 : decide (1073741824 < most) = false := by simp; omega
  have d2 : decide (open_ < 1) = false := by simp; omega
  have d3 : decide (32 < open_) = false := by simp; omega
  have hJ : Hid (JAt w.heap.size (w.heap.size + 2) w.heap.size (w.heap.size + 1) 0 (fun _ => 0) most open_ (((w.alloc (.map #[] 0)).alloc (.map #[] 0)).alloc (.cells #[.int .i64 most, .int .i64 open_, .int .i64 0, .map (some w.heap.size), .map (some (w.heap.size + 1))] 123)) [] ∧
      Below w.heap.size w (((w.alloc (.map #[] 0)).alloc (.map #[] 0)).alloc (.cells #[.int .i64 most, .int .i64 open_, .int .i64 0, .map (some w.heap.size), .map (some (w.heap.size + 1))] 123))) := by
    have b1 := Blk.new ((w.alloc (.map #[] 0)).alloc (.map #[] 0)) #[.int .i64 most, .int .i64 open_, .int .i64 0, .map (some w.heap.size), .map (some (w.heap.size + 1))] 123
    rw [World.size_alloc, World.size_alloc] at b1
    have m1 : LMap kI mapElems (w.alloc (.map #[] 0)) w.heap.size 0 [] := LMap.made _ _ w
    have m2 : LMap kI (intElems .i64) ((w.alloc (.map #[] 0)).alloc (.map #[] 0)) (w.heap.size + 1) 0 [] := by
      have := LMap.made kI (intElems .i64) (w.alloc (.map #[] 0))
      rwa [World.size_alloc] at this
    refine ⟨⟨b1, (m1.below ((Below.refl _ _).alloc (Nat.le_refl _) _)).below ((Below.refl _ _).alloc (Nat.le_refl _) _), m2.below ((Below.refl _ _).alloc (Nat.le_refl _) _), fun i hi => (by cases hi), by omega, fun i hi => (by cases hi), fun i hi => (by cases hi), ⟨by omega, by omega, by omega, fun i hi => (by cases hi)⟩, fun p hp => (by cases hp), fun p hp => (by cases hp)⟩, ?_⟩
    exact (((Below.refl _ _).alloc (Nat.le_refl _) _).alloc (by simp) _).alloc (by simp; omega) _
  clear h
  go_enter Try.func36, Try.ntmps36
  go_wp2_with fail
  go_returns
  exact ⟨rfl, hJ.out.1, hJ.out.2⟩
end Go.Proofs.Ytemfecdpjegocaa
