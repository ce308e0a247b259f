/- (*Joiner).Open, Used. -/
import Derived.Test.YtemfecdpjegocaaKeysLay
import Derived.Test.YtemfecdpjegocaaShelf
import Derived.Test.YtemfecdpjegocaaJoinAt
import Derived.Shelf.SlIterI.Nil
namespace Go.Proofs.Ytemfecdpjegocaa
open Go.RowKit Go.Maps Go.Sort Go.Shelf
set_option linter.unusedVariables false
set_option linter.unusedSimpArgs false

/-- A slice that reads as these numbers. -/
def IntsAt (w : World) (v : Value) (l : List Int) : Prop :=
  ∃ a cap, v = .slice a l.length cap ∧ ∀ (i : Nat) (h : i < l.length), ∃ g off, a = some ⟨g, off, none⟩ ∧ g < w.heap.size ∧ w.cell? ⟨g, off + i, none⟩ = some (.int .i64 l[i])
theorem IntsAt.below {w w' : World} {v : Value} {l : List Int} (h : IntsAt w v l) (hb : Below w.heap.size w w') : IntsAt w' v l := by
  obtain ⟨a, cap, hv, hi⟩ := h
  refine ⟨a, cap, hv, fun i h => ?_⟩
  obtain ⟨g, off, h1, h2, h3⟩ := hi i h
  exact ⟨g, off, h1, Nat.lt_of_lt_of_le h2 hb.size, (hb.cell (p := ⟨g, off + i, none⟩) h2).trans h3⟩
theorem IntsAt.of_row {w : World} {base : Nat} {e : TypeId} {v : Value} {l : List Int} (h : w.ownsRow base e 1 v l.length (l.map encZ)) : IntsAt w v l := by
  obtain ⟨_, ⟨rfl, h0⟩ | ⟨g, cap, cur, rfl, _, hg, h1, h2, h3, h4⟩⟩ := h
  · exact ⟨none, 0, by rw [h0], fun i hi => by omega⟩
  · refine ⟨some ⟨g, 0, none⟩, cap, rfl, fun i hi => ⟨g, 0, rfl, (Array.getElem?_eq_some_iff.1 hg).1, ?_⟩⟩
    have hc : cur[i]? = some (.int .i64 l[i]) := by
      have e1 : (cur.toList.take (l.length * 1))[i]? = some (encZ l[i]) := by rw [h4, List.getElem?_map, List.getElem?_eq_getElem hi]; rfl
      rw [List.getElem?_take_of_lt (by omega)] at e1
      simpa using e1
    rw [World.cell?]
    simp [hg, hc]
def sortI (l : List Int) : List Int := l.mergeSort fun x y => decide (x ≤ y)
theorem merge_perm {l l' : List Int} (h : l.Perm l') : sortI l = sortI l' := by
  have s1 := List.pairwise_mergeSort (le := fun x y : Int => decide (x ≤ y)) (by intro a b c; simp; omega) (by intro a b; simp; omega) l
  have s2 := List.pairwise_mergeSort (le := fun x y : Int => decide (x ≤ y)) (by intro a b c; simp; omega) (by intro a b; simp; omega) l'
  have hp : (sortI l).Perm (sortI l') := (List.mergeSort_perm l _).trans (h.trans (List.mergeSort_perm l' _).symm)
  exact hp.eq_of_pairwise (le := fun x y : Int => decide (x ≤ y) = true) (by intro a b _ _ h1 h2; simp at h1 h2; omega) s1 s2

/-- slices.Sort's two contracts at this seat. -/
theorem sortsK (m : Nat) : AnyZI.SortsIn Try.prog Try.sortedK_ren Fence.wide m :=
  ⟨fun blk off cap ss W hH hblk hsz => callsIn_wide.2 (Try.slices_Sort_int blk off cap ss W hH hblk hsz),
   fun p cap W => callsIn_wide.2 (Try.slices_Sort_int_none p cap W)⟩
def OpenPost (B : Nat) (l : List Int) (w : World) (en : Ending) (w' : World) : Prop := ∃ v, en = .returned v ∧ IntsAt w' v (sortI l) ∧ Below w.heap.size w w'
theorem intKeys_perm {X : Type} {F : EEnc X} {w : World} {b n : Nat} {l : List (Int × X)} {es : List (Lit × DataW X)} (hpe : es.Perm (l.map fun p => (kI.kl p.1, .held p.2))) : (_root_.Go.intKeys (DataW.map es)).Perm (l.map Prod.fst) := by
  have h1 : _root_.Go.intKeys (DataW.map es) = es.map fun p => _root_.Go.intOf p.1 := rfl
  rw [h1]
  refine (hpe.map (fun p => _root_.Go.intOf p.1)).trans ?_
  rw [List.map_map]
  exact .of_eq rfl

set_option maxRecDepth 100000 in
set_option maxHeartbeats 1000000 in
theorem parts_open {B bj bb bo n : Nat} {f : Int → Nat} {most open_ : Int} {w : World} {L : List Pt} (h : JAt B bj bb bo n f most open_ w L) (hnn : n ≤ 100000) :
    Calls Try.prog 38 #[.pointer (some ⟨bj, 0, none⟩)] w (OpenPost B (idsL L) w) := by
  obtain ⟨es, hown, hpe, _, _⟩ := id h.mb
  have hsz : Maps.size (DataW.map es) ≤ 100000 := Nat.le_trans hown.size_le hnn
  have hmax : Maps.size (DataW.map es) ≤ maxLen := by unfold maxLen; omega
  have hbytes : Maps.size (DataW.map es) * 8 ≤ 140737488355328 := by omega
  have hbl := hown.lt
  have c3 : w.cell? ⟨bj, 3, none⟩ = some (.map (some bb)) := h.bd.cell 3
  refine (callsIn_wide (n := 6)).1 ?_
  have hseq : SeqGives Fence.wide 2 Try.prog 78 #[.pointer (some ⟨w.heap.size, 0, none⟩)] encZ (fun ss => ss.Perm (_root_.Go.intKeys (DataW.map es))) (Maps.size (DataW.map es)) (w.alloc (.cells #[.map (some bb)] 120)) :=
    AnyZI.keys_gives (ρ := Try.keysK_ren) { Try.keysK with } Fence.wide _ trivial rfl (by omega) w.heap.size bb n (DataW.map es) _ (by simp) (by simp) (by
      obtain ⟨es', clock, hb, Ft, hs, hD⟩ := hown
      exact ⟨es', clock, (Below.heap_alloc _ _ bb hbl).trans hb, Ft, hs, hD⟩)
  have cK : ∀ mb W, CallsIn Fence.wide 5 Try.prog 62 #[.map mb] W fun e w' => e = .returned (.func (.func 78) #[] #[.pointer (some ⟨W.heap.size, 0, none⟩)]) ∧ w' = W.alloc (.cells #[.map mb] 120) := fun mb W => AnyZI.keys_in Try.keysK Fence.wide 5 trivial rfl mb W
  have cS := AnyZI.sorted_in Try.sortedK Fence.wide 5 trivial trivial trivial trivial rfl (by omega) (sortsK _) (enters_of Try.func77 (by kernel_rfl) rfl) 78 #[.pointer (some ⟨w.heap.size, 0, none⟩)] trivial (enters_of Try.func78 (by kernel_rfl) rfl) _ _ hmax hbytes _ hseq
  change CallsIn _ _ Try.prog 61 _ _ _ at cS
  have hfK : Fence.wide.fn 62 := trivial
  have hfS : Fence.wide.fn 61 := trivial
  refine callsIn_of_wp Try.func38 rfl trivial ?_ rfl
  simp only [Try.ntmps38, List.size_toArray, List.length_cons, List.length_nil, Nat.reduceAdd, Nat.reduceSub, Array.replicate_succ, Array.replicate_zero, List.push_toArray, List.append_toArray, List.nil_append, List.cons_append]
  have HB := Lib.hid h.bd
  gi_wp2_with (first
    | (gi_at_call 62; refine (cK _ _).mono ?_; rintro e w' ⟨rfl, rfl⟩)
    | (gi_at_call 61; refine cS.mono ?_; rintro e w' ⟨v, ss, rfl, hS, hrow, hnil, hb⟩))
  go_ret
  refine ⟨v, rfl, ?_, ((Below.refl _ w).alloc (Nat.le_refl _) _).trans (hb.mono (by simp))⟩
  have hp : ss.Perm (idsL L) := hS.trans ((intKeys_perm (F := mapElems) (w := w) (b := bb) (n := n) hpe).trans (by rw [List.map_map]; simp [Function.comp_def]))
  have hl : ss.length = (sortI ss).length := (List.mergeSort_perm _ _).length_eq.symm
  rw [← merge_perm hp]
  refine IntsAt.of_row (base := 0) (e := 3) ?_
  rw [← hl]
  exact ownsRow_base_a hrow (Nat.zero_le _)

set_option maxRecDepth 100000 in
theorem parts_used {B bj bb bo n : Nat} {f : Int → Nat} {most open_ : Int} {w : World} {L : List Pt} (h : JAt B bj bb bo n f most open_ w L) :
    Calls Try.prog 39 #[.pointer (some ⟨bj, 0, none⟩)] w fun en w' => en = .returned (.int .i64 (usedL L : Nat)) ∧ w' = w := by
  have c2 : w.cell? ⟨bj, 2, none⟩ = some (.int .i64 (usedL L : Nat)) := h.bd.cell 2
  generalize usedL L = u at *
  clear h
  go_enter Try.func39, Try.ntmps39
  go_wp2_with fail
  go_returns
  exact ⟨rfl, rfl⟩
end Go.Proofs.Ytemfecdpjegocaa
