/- Drop of the joiner. -/
import Derived.Test.YtemfecdpjegocaaJoinAt
import Derived.Deep.LoopGhost
import Derived.Laws.IdiomRangeMap
import Derived.Maps.RangeWalk
namespace Go.Proofs.Ytemfecdpjegocaa
open Go.RowKit Go.Maps
set_option linter.unusedVariables false
set_option linter.unusedSimpArgs false

theorem sizeP_cut {l : List (Int × ByteArray)} (hn : (l.map Prod.fst).Nodup) {x : Int} {y : ByteArray} (h : (x, y) ∈ l) : sizeP l = sizeP (l.filter fun p => p.1 != x) + y.size := by
  induction l with
  | nil => cases h
  | cons q l ih =>
    rw [List.map_cons, List.nodup_cons] at hn
    rcases List.mem_cons.1 h with rfl | h
    · have e : l.filter (fun p => p.1 != x) = l := by
        rw [List.filter_eq_self]
        intro p hp
        have : p.1 ≠ x := fun e => hn.1 (List.mem_map.2 ⟨p, hp, e⟩)
        simp [this]
      simp [sizeP, e]; omega
    · have hq : q.1 ≠ x := fun e => hn.1 (List.mem_map.2 ⟨(x, y), h, e.symm⟩)
      have ih' := ih hn.2 h
      simp only [sizeP] at ih' ⊢
      simp [hq, ih']; omega
theorem dropL_none {L : List Pt} {x : Int} (h : x ∉ idsL L) : dropL L x = L := by
  unfold dropL
  rw [List.filter_eq_self]
  intro p hp
  have : p.id ≠ x := fun e => h ((mem_idsL L x).2 ⟨p, hp, e⟩)
  simp [this]
theorem filter_ids {X : Type} (l : List Int) (g : Int → X) (x : Int) : (l.map fun i => (i, g i)).filter (fun p => p.1 != x) = (l.filter (· != x)).map fun i => (i, g i) := by
  rw [List.filter_map]; rfl
/-- What lies behind Drop. -/
theorem JAt.dropped {B bj bb bo n : Nat} {f : Int → Nat} {most open_ : Int} {w w' : World} {L : List Pt} {id : Int} (h : JAt B bj bb bo n f most open_ w L)
    (h1 : Blk w' bj #[.int .i64 most, .int .i64 open_, .int .i64 (usedL (dropL L id) : Nat), .map (some bb), .map (some bo)] 123)
    (h2 : LMap kI mapElems w' bb n (((idsL L).map fun i => (i, some (f i))).filter fun p => p.1 != id))
    (h3 : LMap kI (intElems .i64) w' bo n (((idsL L).map fun i => (i, ofL L i)).filter fun p => p.1 != id))
    (h4 : ∀ i ∈ idsL L, w'.heap[f i]? = w.heap[f i]?) : JAt B bj bb bo n f most open_ w' (dropL L id) := by
  have hin : ∀ i, i ∈ idsL (dropL L id) → i ∈ idsL L ∧ i ≠ id := fun i hi => by
    rw [idsL_drop, List.mem_filter] at hi
    exact ⟨hi.1, by simpa using hi.2⟩
  refine ⟨h1, ?_, ?_, fun i hi => ?_, h.ne, fun i hi => h.nf i (hin i hi).1, fun i hi j hj => h.inj i (hin i hi).1 j (hin j hj).1, ⟨h.lo.1, h.lo.2.1, h.lo.2.2.1, fun i hi => h.lo.2.2.2 i (hin i hi).1⟩, fun p hp => h.may p (List.mem_filter.1 hp).1, fun p hp => ?_⟩
  · rw [idsL_drop, ← filter_ids]; exact h2
  · rw [filter_ids] at h3
    rw [idsL_drop]
    have e : ((idsL L).filter (· != id)).map (fun i => (i, ofL (dropL L id) i)) = ((idsL L).filter (· != id)).map (fun i => (i, ofL L i)) := by
      apply List.map_congr_left
      intro i hi
      have : i ≠ id := by simpa using (List.mem_filter.1 hi).2
      rw [ofL_drop L this]
    rw [e]; exact h3
  · rw [partsOf_drop L (hin i hi).2]
    exact (h.ps i (hin i hi).1).block (h4 i (hin i hi).1)
  · obtain ⟨hp1, hp2⟩ := List.mem_filter.1 hp
    rw [h.of1 p hp1, ofL_drop L (by simpa using hp2)]

set_option maxRecDepth 100000 in
set_option maxHeartbeats 2000000 in
theorem parts_drop_there {B bj bb bo n : Nat} {f : Int → Nat} {most open_ : Int} {w : World} {L : List Pt} (h : JAt B bj bb bo n f most open_ w L) (id : Int) (hid : kI.ok id) (hin : id ∈ idsL L) (hu : usedL L ≤ 1099511627776) :
    Calls Try.prog 40 #[.pointer (some ⟨bj, 0, none⟩), .int .i64 id] w fun en w' => en = .returned (.bool true) ∧ JAt B bj bb bo n f most open_ w' (dropL L id) ∧ KpO (OwnJ bj bb bo f L) w w' := by
  have hlk := h.mb.look_ok bodies_t bodies_z hid
  rw [getL_ids _ _ (nodup_idsL L), if_pos hin] at hlk
  have c3 : w.cell? ⟨bj, 3, none⟩ = some (.map (some bb)) := h.bd.cell 3
  have hmp := Lib.hid (h.ps id hin)
  have H := Lib.hid h
  have HIN := Lib.hid hin
  have HID := Lib.hid hid
  have hud := usedL_drop L id
  have hlt := Lib.hid h.lt
  clear h hin hid
  change (Instr.lookup 120 (.map (some bb)) (.int .i64 id) true).run Try.prog w = .ok (.tuple #[.map (some (f id)), .bool true]) w at hlk
  go_enter Try.func40, Try.ntmps40
  go_wp2_with (at_range; refine wpList_lmap_range rfl (.tmp 20) rfl body_t hmp.out rfl ?_; intro w0 hrg0 hg0 hs0)
  go_frame
  obtain ⟨r, hr⟩ : ∃ r, w.heap.size = r := ⟨_, rfl⟩
  rw [hr] at hrg0 ⊢
  obtain ⟨P0, hP0⟩ : ∃ P0, partsOf L id = P0 := ⟨_, rfl⟩
  rw [hP0] at hrg0 hud
  obtain ⟨U, hU⟩ : ∃ U, usedL (dropL L id) = U := ⟨_, rfl⟩
  rw [hU] at hud
  have HU := Lib.hid hU
  have hbjr : bj < r := by rw [← hr]; exact hlt.out bj (.inl rfl)
  have hfr : f id < r := by rw [← hr]; exact hlt.out _ (.inr (.inr (.inr ⟨id, HIN.out, rfl⟩)))
  have hfn : f id ≠ bj := (H.out.nf id HIN.out).1
  have hB0 : Hid (Blk w0 bj #[.int .i64 most, .int .i64 open_, .int .i64 (U + sizeP P0 : Nat), .map (some bb), .map (some bo)] 123) := by
    have := H.out.bd
    unfold Hid Blk
    rw [hg0.block bj H.out.bd.lt (by simp), hud]; exact this
  have hK0 : Hid (KpO (fun b => b = bj) w w0) := ⟨hg0.os, hg0.tape, hg0.output, hg0.size, fun i hi _ => hg0.block i hi (by simp)⟩
  have hle : ∀ l : List (Int × ByteArray), sizeP l ≤ sizeP P0 → U + sizeP l ≤ 1099511627776 := fun l h => by omega
  have HLE := Lib.hid hle
  have HRG0 := Lib.hid hrg0
  clear hg0 hmp hud hlk hU hle hrg0
  go_loopw [8] (fun _ wr => ∃ (rest : List (Int × ByteArray)) (u : Int), LRange kI strElems wr (f id) r n P0 rest ∧ Hid (sizeP rest ≤ sizeP P0 ∧ u = ((U + sizeP rest : Nat) : Int)) ∧ (0 ≤ u ∧ u ≤ 1099511627776) ∧ Blk wr bj #[.int .i64 most, .int .i64 open_, .int .i64 u, .map (some bb), .map (some bo)] 123 ∧ Hid (KpO (fun b => b = bj) w wr)) (fun _ wr => wr.rangeLeft (f id) r)
  case atStart => exact ⟨P0, _, HRG0.out, ⟨Nat.le_refl _, rfl⟩, by have := HLE.out P0 (Nat.le_refl _); omega, hB0.out, hK0⟩
  case round =>
    obtain ⟨rest, u, hrg, hsl, ⟨hu0, hu1⟩, hbd, hk⟩ := hrel
    have HRG := Lib.hid hrg
    go_wp2_with (at_next; refine wpList_lmap_next rfl (.tmp 21) rfl rfl hrg ?_ ?_)
    · intro he
      subst he
      obtain rfl : u = (U : Int) := by have := hsl.out.2; simpa [sizeP] using this
      have c3 : wr.cell? ⟨bj, 3, none⟩ = some (.map (some bb)) := hbd.cell 3
      have hmb : Hid (LMap kI mapElems wr bb n ((idsL L).map fun i => (i, some (f i)))) := H.out.mb.block (hk.out.block bb H.out.mb.lt (Ne.symm H.out.ne.1))
      have hmo : Hid (LMap kI (intElems .i64) wr bo n ((idsL L).map fun i => (i, ofL L i))) := H.out.mo.block (hk.out.block bo H.out.mo.lt (Ne.symm H.out.ne.2.1))
      have hbd' := Lib.hid hbd
      clear hrg HRG hbd
      go_wp2_with (first
        | (at_delete; refine wpList_lmap_drop rfl (.tmp 38) (.tmp 39) rfl bodies_t hmb.out rfl rfl HID.out ?_; intro w2 hm2 hu2
           have hbd2 : Hid (Blk w2 bj #[.int .i64 most, .int .i64 open_, .int .i64 (U : Int), .map (some bb), .map (some bo)] 123) := hu2.blk hbd'.out H.out.ne.1
           have c4 : w2.cell? ⟨bj, 4, none⟩ = some (.map (some bo)) := hbd2.out.cell 4
           have hmo2 : Hid (LMap kI (intElems .i64) w2 bo n ((idsL L).map fun i => (i, ofL L i))) := hmo.out.block (hu2.block bo hmo.out.lt (by simp; exact Ne.symm H.out.ne.2.2))
           have hm2' := Lib.hid hm2
           have hu2' := Lib.hid hu2
           clear hm2 hu2)
        | (at_delete; refine wpList_lmap_drop rfl (.tmp 43) (.tmp 44) rfl of_t hmo2.out rfl rfl HID.out ?_; intro w3 hm3 hu3
           have hbd3 : Hid (Blk w3 bj #[.int .i64 most, .int .i64 open_, .int .i64 (U : Int), .map (some bb), .map (some bo)] 123) := hu3.blk hbd2.out H.out.ne.2.1
           have hm3' := Lib.hid hm3
           have hu3' := Lib.hid hu3
           clear hm3 hu3))
      go_returns
      refine ⟨rfl, H.out.dropped ?_ ?_ hm3'.out ?_, ?_⟩
      · rw [HU.out]; exact hbd3.out
      · exact hm2'.out.block (hu3'.out.block bb hm2'.out.lt (by simp; exact H.out.ne.2.2))
      · intro i hi
        have h1 := (H.out.ps i hi).lt
        have h2 := H.out.nf i hi
        have e1 := hk.out.block (f i) h1 h2.1
        have s1 := hk.out.size
        have e2 := hu2'.out.block (f i) (Nat.lt_of_lt_of_le h1 s1) (by simp; exact h2.2.1)
        have s2 := hu2'.out.size
        have e3 := hu3'.out.block (f i) (Nat.lt_of_lt_of_le h1 (Nat.le_trans s1 s2)) (by simp; exact h2.2.2)
        rw [e3, e2, e1]
      · exact ((hk.out.mono fun i _ hi => .inl hi).upd hu2'.out (.inr (.inl rfl))).upd hu3'.out (.inr (.inr (.inl rfl)))
    · intro x y w1 hxy hrg1 hlt1 hg1 hs1 hen
      have hcut := sizeP_cut (by obtain ⟨_, _, _, _, _, _, _, _, _, hn⟩ := HRG.out; exact hn) hxy
      have hbd1 : Hid (Blk w1 bj #[.int .i64 most, .int .i64 open_, .int .i64 u, .map (some bb), .map (some bo)] 123) := by
        unfold Hid Blk
        rw [hg1.block bj hbd.lt (by simp; omega)]; exact hbd
      have c2 : w1.cell? ⟨bj, 2, none⟩ = some (.int .i64 u) := hbd1.out.cell 2
      have f2 := hbd1.out.free
      have hk1 : Hid (KpO (fun b => b = bj) w w1) := ⟨hg1.os.trans hk.out.os, hg1.tape.trans hk.out.tape, hg1.output.trans hk.out.output, Nat.le_trans hk.out.size hg1.size, fun i hi hn => (hg1.block i (Nat.lt_of_lt_of_le hi hk.out.size) (by simp; omega)).trans (hk.out.block i hi hn)⟩
      have hrg1' := Lib.hid hrg1
      have hlt1' := Lib.hid hlt1
      have hys : (y.size : Int) ≤ u := by have := hsl.out.2; omega
      have hsl2 : Hid (sizeP (rest.filter fun p => p.1 != x) ≤ sizeP P0 ∧ u - (y.size : Int) = ((U + sizeP (rest.filter fun p => p.1 != x) : Nat) : Int)) := by
        have h1 := hsl.out.1
        have h2 := hsl.out.2
        exact ⟨by omega, by omega⟩
      change (Instr.entry (.pointer (some ⟨r, 0, none⟩))).run Try.prog w1 = .ok (.tuple #[.int .i64 x, .string y]) w1 at hen
      clear hrg1 hlt1 hbd hcut hg1 hrg
      go_wp2_with fail
      go_roundw
      case rel => exact ⟨_, _, hrg1'.out.kept (row := some bj) ⟨rfl, rfl, rfl, by simp [World.setCell], fun k _ hne => Below.heap_setCell _ _ _ _ (fun e => hne (by rw [e]))⟩ (by simp; exact hfn) (by simp; omega), hsl2, by omega, by have := hbd1.out.set 2 (.int .i64 (u - (y.size : Int))); simpa using this, hk1.out.set (a := ⟨bj, 2, none⟩) rfl _⟩
      case measure => rw [hrg1'.out.left_kept (w' := w1.setCell ⟨bj, 2, none⟩ (.int .i64 (u - (y.size : Int)))) (row := some bj) ⟨rfl, rfl, rfl, by simp [World.setCell], fun k _ hne => Below.heap_setCell _ _ _ _ (fun e => hne (by rw [e]))⟩ (by simp; exact hfn) (by simp; omega)]; exact hlt1'.out

set_option maxRecDepth 100000 in
set_option maxHeartbeats 2000000 in
theorem parts_drop_none {B bj bb bo n : Nat} {f : Int → Nat} {most open_ : Int} {w : World} {L : List Pt} (h : JAt B bj bb bo n f most open_ w L) (id : Int) (hid : kI.ok id) (hin : id ∉ idsL L) :
    Calls Try.prog 40 #[.pointer (some ⟨bj, 0, none⟩), .int .i64 id] w fun en w' => en = .returned (.bool false) ∧ JAt B bj bb bo n f most open_ w' (dropL L id) ∧ KpO (OwnJ bj bb bo f L) w w' := by
  have hlk := h.mb.look_ok bodies_t bodies_z hid
  rw [getL_ids _ _ (nodup_idsL L), if_neg hin] at hlk
  have c3 : w.cell? ⟨bj, 3, none⟩ = some (.map (some bb)) := h.bd.cell 3
  have H := Lib.hid h
  have HIN := Lib.hid hin
  have HID := Lib.hid hid
  clear h hin hid
  change (Instr.lookup 120 (.map (some bb)) (.int .i64 id) true).run Try.prog w = .ok (.tuple #[.map none, .bool false]) w at hlk
  have hrg := run_range_nilMap (P := Try.prog) w 124 _ _ body_t
  have hnx : ∀ ty, (Instr.next (.pointer (some ⟨w.heap.size, 0, none⟩)) false ty).run Try.prog (w.alloc (.mapIter none 0 #[] 0)) = _ := fun ty => run_next_nilMap _ ty 0 0 #[]
  have hb0 : Below w.heap.size w (w.alloc (.mapIter none 0 #[] 0)) := (Below.refl _ _).alloc (Nat.le_refl _) _
  have hJ0 : Hid (JAt B bj bb bo n f most open_ (w.alloc (.mapIter none 0 #[] 0)) L) := H.out.below hb0
  have c3' : (w.alloc (.mapIter none 0 #[] 0)).cell? ⟨bj, 3, none⟩ = some (.map (some bb)) := hJ0.out.bd.cell 3
  have hk0 : Hid (KpO (OwnJ bj bb bo f L) w (w.alloc (.mapIter none 0 #[] 0))) := (KpO.refl _ w).alloc _
  go_enter Try.func40, Try.ntmps40
  go_wp2
  refine wp_loop_rounds 1 ?_
  rw [rounds_succ]
  clear hb0
  go_wp2_with (first
    | (at_delete; refine wpList_lmap_drop rfl (.tmp 38) (.tmp 39) rfl bodies_t hJ0.out.mb rfl rfl HID.out ?_; intro w2 hm2 hu2
       have hbd2 : Hid (Blk w2 bj #[.int .i64 most, .int .i64 open_, .int .i64 (usedL L : Nat), .map (some bb), .map (some bo)] 123) := hu2.blk hJ0.out.bd H.out.ne.1
       have c4 : w2.cell? ⟨bj, 4, none⟩ = some (.map (some bo)) := hbd2.out.cell 4
       have hmo2 : Hid (LMap kI (intElems .i64) w2 bo n ((idsL L).map fun i => (i, ofL L i))) := hJ0.out.mo.block (hu2.block bo hJ0.out.mo.lt (by simp; exact Ne.symm H.out.ne.2.2))
       have hm2' := Lib.hid hm2
       have hu2' := Lib.hid hu2
       clear hm2 hu2)
    | (at_delete; refine wpList_lmap_drop rfl (.tmp 43) (.tmp 44) rfl of_t hmo2.out rfl rfl HID.out ?_; intro w3 hm3 hu3
       have hbd3 : Hid (Blk w3 bj #[.int .i64 most, .int .i64 open_, .int .i64 (usedL L : Nat), .map (some bb), .map (some bo)] 123) := hu3.blk hbd2.out H.out.ne.2.1
       have hm3' := Lib.hid hm3
       have hu3' := Lib.hid hu3
       clear hm3 hu3))
  go_returns
  refine ⟨rfl, hJ0.out.dropped ?_ ?_ hm3'.out ?_, (hk0.out.upd hu2'.out (.inr (.inl rfl))).upd hu3'.out (.inr (.inr (.inl rfl)))⟩
  · rw [dropL_none HIN.out]; exact hbd3.out
  · exact hm2'.out.block (hu3'.out.block bb hm2'.out.lt (by simp; exact H.out.ne.2.2))
  · intro i hi
    have h1 := (hJ0.out.ps i hi).lt
    have h2 := H.out.nf i hi
    have e2 := hu2'.out.block (f i) h1 (by simp; exact h2.2.1)
    have s2 := hu2'.out.size
    have e3 := hu3'.out.block (f i) (Nat.lt_of_lt_of_le h1 s2) (by simp; exact h2.2.2)
    rw [e3, e2]

theorem parts_drop {B bj bb bo n : Nat} {f : Int → Nat} {most open_ : Int} {w : World} {L : List Pt} (h : JAt B bj bb bo n f most open_ w L) (id : Int) (hid : kI.ok id) (hu : usedL L ≤ 1099511627776) :
    Calls Try.prog 40 #[.pointer (some ⟨bj, 0, none⟩), .int .i64 id] w fun en w' => en = .returned (.bool (decide (id ∈ idsL L))) ∧ JAt B bj bb bo n f most open_ w' (dropL L id) ∧ KpO (OwnJ bj bb bo f L) w w' := by
  by_cases hin : id ∈ idsL L
  · rw [decide_eq_true hin]; exact parts_drop_there h id hid hin hu
  · rw [decide_eq_false hin]; exact parts_drop_none h id hid hin
end Go.Proofs.Ytemfecdpjegocaa
