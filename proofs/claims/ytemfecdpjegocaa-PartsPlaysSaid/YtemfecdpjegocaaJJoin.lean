/- join of the joiner. -/
import Derived.Test.YtemfecdpjegocaaJoinAt
import Derived.Test.YtemfecdpjegocaaBuilder
namespace Go.Proofs.Ytemfecdpjegocaa
open Go.RowKit Go.Maps
set_option linter.unusedVariables false
set_option linter.unusedSimpArgs false

/-- The value v is a body's map, or nil, with just these. -/
def BodyV (w : World) (v : Option Nat) (n : Nat) (l : List (Int × ByteArray)) : Prop := (v = none ∧ l = []) ∨ ∃ c, v = some c ∧ LMap kI strElems w c n l
theorem BodyV.below {w w' : World} {v : Option Nat} {n : Nat} {l : List (Int × ByteArray)} (h : BodyV w v n l) (hb : Below w.heap.size w w') : BodyV w' v n l := by
  rcases h with h | ⟨c, rfl, h⟩
  · exact .inl h
  · exact .inr ⟨c, rfl, h.below hb⟩
theorem BodyV.look {w : World} {v : Option Nat} {n : Nat} {l : List (Int × ByteArray)} (h : BodyV w v n l) {x : Int} (hx : kI.ok x) :
    (Instr.lookup 124 (.map v) (.int .i64 x) false).run Try.prog w = .ok (.string ((getL l x).getD ByteArray.empty)) w := by
  rcases h with ⟨rfl, rfl⟩ | ⟨c, rfl, h⟩
  · exact Maps.look_nil false kI.K body_t (body_z w) (kI.lay x hx)
  · exact h.look body_t body_z hx
theorem BodyV.look_ok {w : World} {v : Option Nat} {n : Nat} {l : List (Int × ByteArray)} (h : BodyV w v n l) {x : Int} (hx : kI.ok x) :
    (Instr.lookup 124 (.map v) (.int .i64 x) true).run Try.prog w = .ok (.tuple #[.string ((getL l x).getD ByteArray.empty), .bool (getL l x).isSome]) w := by
  rcases h with ⟨rfl, rfl⟩ | ⟨c, rfl, h⟩
  · exact Maps.look_nil true kI.K body_t (body_z w) (kI.lay x hx)
  · exact h.look_ok body_t body_z hx
theorem BodyV.len {w : World} {v : Option Nat} {n : Nat} {l : List (Int × ByteArray)} (h : BodyV w v n l) (ty : TypeId) :
    (Builtin.len_ #[124] ty #[.map v]).run Try.prog w = .ok (.int .i64 (l.length : Nat)) w := by
  rcases h with ⟨rfl, rfl⟩ | ⟨c, rfl, h⟩
  · exact Maps.len_nil body_t ty
  · exact h.len body_t ty

theorem joinTo_len (l : List (Int × ByteArray)) (p : Pt) (hp : p.text.size ≤ 65536) (hl : ∀ q ∈ l, q.2.size ≤ 65536) : ∀ k, (joinTo l p k).length ≤ k * 65536
  | 0 => by simp [joinTo]
  | k + 1 => by
    have ih := joinTo_len l p hp hl k
    rw [joinTo, List.length_append]
    have h1 : ((if (k : Int) = p.n then p.text else (getL l (k : Int)).getD ByteArray.empty).data.toList).length ≤ 65536 := by
      rw [Array.length_toList]
      split
      · exact hp
      · cases hg : getL l (k : Int) with
        | none => exact Nat.zero_le _
        | some y =>
          unfold getL at hg
          obtain ⟨q, hq, rfl⟩ := Option.map_eq_some_iff.1 hg
          exact hl q (List.mem_of_find?_eq_some hq)
    rw [Nat.add_mul]; omega

set_option maxRecDepth 100000 in
set_option maxHeartbeats 1000000 in
theorem parts_join {w : World} {v : Option Nat} {n : Nat} {l : List (Int × ByteArray)} (h : BodyV w v n l) (p : Pt) (hm : mayP p) (hl : ∀ q ∈ l, q.2.size ≤ 65536) :
    Calls Try.prog 60 #[.map v, .agg p.cs] w fun en w' => en = .returned (.string ⟨(joinTo l p p.of_.toNat).toArray⟩) ∧ Below w.heap.size w w' := by
  obtain ⟨id, pn, o, T⟩ := p
  obtain ⟨_, ⟨ho1, ho2⟩, ⟨hn1, hn2⟩, hT, _⟩ := hm
  simp only at ho1 ho2 hn1 hn2 hT
  obtain ⟨m, rfl⟩ : ∃ m : Nat, o = m := ⟨o.toNat, by omega⟩
  obtain ⟨q, rfl⟩ : ∃ q : Nat, pn = q := ⟨pn.toNat, by omega⟩
  have hjl := joinTo_len l ⟨id, q, m, T⟩ hT hl
  have e1 : (joinTo l ⟨id, q, m, T⟩ ((m : Nat) : Int).toNat) = joinTo l ⟨id, q, m, T⟩ m := by simp
  rw [e1]
  have hJ0 : joinTo l ⟨id, q, m, T⟩ 0 = [] := rfl
  have hJs : ∀ k, joinTo l ⟨id, q, m, T⟩ (k + 1) = joinTo l ⟨id, q, m, T⟩ k ++ (if (k : Int) = q then T else (getL l (k : Int)).getD ByteArray.empty).data.toList := fun k => rfl
  have hgs : ∀ k : Nat, ((getL l (k : Int)).getD ByteArray.empty).size ≤ 65536 := fun k => by
    cases hg : getL l (k : Int) with
    | none => exact Nat.zero_le _
    | some y =>
      unfold getL at hg
      obtain ⟨q, hq, rfl⟩ := Option.map_eq_some_iff.1 hg
      exact hl q (List.mem_of_find?_eq_some hq)
  simp only [Pt.cs]
  generalize joinTo l ⟨id, q, m, T⟩ = J at *
  have HB := Lib.hid h
  have HJ := Lib.hid (And.intro hJ0 (And.intro hJs (And.intro hjl hgs)))
  have HTT := Lib.hid hT
  clear h hJ0 hJs hjl hgs e1 hl hT
  obtain ⟨g, hg⟩ : ∃ g, w.heap.size = g := ⟨_, rfl⟩
  have hb0 : Hid (Below g w ((w.alloc (.cells #[.int .i64 id, .int .i64 q, .int .i64 m, .string T] 33)).alloc (.cells #[.pointer none, .slice none 0 0] 143))) := (((Below.refl _ _).alloc (by omega) _).alloc (by simp; omega) _)
  have hp0 : Hid (Blk ((w.alloc (.cells #[.int .i64 id, .int .i64 q, .int .i64 m, .string T] 33)).alloc (.cells #[.pointer none, .slice none 0 0] 143)) g #[.int .i64 id, .int .i64 q, .int .i64 m, .string T] 33) := (hg ▸ Blk.new w _ _).alloc _
  have hbu : Hid (Lib.IsBuilder 143 5 (g + 1) (g + 1) (Lib.byteCells []) ((w.alloc (.cells #[.int .i64 id, .int .i64 q, .int .i64 m, .string T] 33)).alloc (.cells #[.pointer none, .slice none 0 0] 143))) := by
    have := Blk.new (w.alloc (.cells #[.int .i64 id, .int .i64 q, .int .i64 m, .string T] 33)) #[.pointer none, .slice none 0 0] 143
    rw [World.size_alloc, hg] at this
    exact .inl ⟨Nat.le_refl _, .slice none 0 0, this, World.ownsRow_nil _ _ _ _, by simp [Value.ownBlock]⟩
  have hsz0 : g + 2 = ((w.alloc (.cells #[.int .i64 id, .int .i64 q, .int .i64 m, .string T] 33)).alloc (.cells #[.pointer none, .slice none 0 0] 143)).heap.size := by simp [hg]
  have HS0 := Lib.hid hsz0
  clear hsz0
  rw [hg]
  go_enter Try.func60, Try.ntmps60
  go_wp2_with fail
  go_loopw [6, 9] (fun _ iv wi => ∃ k : Nat, iv = .int .i64 k ∧ k ≤ m ∧ Hid (Lib.IsBuilder 143 5 (g + 1) (g + 1) (Lib.byteCells (J k)) wi) ∧ Hid (Blk wi g #[.int .i64 id, .int .i64 q, .int .i64 m, .string T] 33) ∧ Hid (Below g w wi) ∧ Hid (g + 2 ≤ wi.heap.size)) (fun _ iv _ => m - (intOf iv).toNat)
  case atStart => exact ⟨0, rfl, by omega, by rw [HJ.out.1]; exact hbu, hp0, hb0, Nat.le_of_eq HS0.out⟩
  case round =>
    clear hbu hp0 hb0 HS0
    obtain ⟨k, rfl, hk, hbu, hp, hb, hs⟩ := hrel
    have c1 : wr.cell? ⟨g, 1, none⟩ = some (.int .i64 (q : Int)) := hp.out.cell 1
    have c3 : wr.cell? ⟨g, 3, none⟩ = some (.string T) := hp.out.cell 3
    by_cases c : k < m
    · have hlen : (Lib.byteCells (J k)).length + 70000 ≤ 140737488355328 := by
        have := HJ.out.2.2.1 k
        simp only [Lib.byteCells, List.length_map]
        omega
      have hjs := HJ.out.2.1 k
      by_cases ck : k = q
      · have d5 : ((k : Int) == (q : Int)) = true := by rw [beq_iff_eq]; omega
        rw [if_pos (by omega)] at hjs
        have hnx := Lib.hid hjs
        clear hjs
        have hT1 : T.size ≤ 65536 := HTT.out
        go_wp2_with fail
        refine (writeString (g + 1) (g + 1) (Lib.byteCells (J k)) T wr hbu.out (by omega) (by have := hs.out; omega)).mono ?_
        rintro en w2 ⟨rfl, hbd2, hb2⟩
        have hbu2 : Hid (Lib.IsBuilder 143 5 (g + 1) (g + 1) (Lib.byteCells (J (k + 1))) w2) := by
          unfold Hid
          rw [hnx.out, byteCells_app, ← strCells_byte]
          exact .inr hbd2
        have hp2 : Hid (Blk w2 g #[.int .i64 id, .int .i64 q, .int .i64 m, .string T] 33) := Below.blk hb2 hp.out (by omega)
        have hb3 : Hid (Below g w w2) := hb.out.trans (hb2.mono (by omega))
        have hs2 : Hid (g + 2 ≤ w2.heap.size) := Nat.le_trans hs.out hb2.size
        clear hbd2 hb2
        go_wp2_with fail
        go_roundw
        case rel => exact ⟨k + 1, by go_num, by omega, hbu2, hp2, hb3, hs2⟩
        case measure => simp [intOf]; omega
      · have d5 : ((k : Int) == (q : Int)) = false := by rw [beq_eq_false_iff_ne]; omega
        rw [if_neg (by omega)] at hjs
        have hlk := (HB.out.below (hg ▸ hb.out)).look (x := (k : Int)) (okI (by omega))
        have hT1 := HJ.out.2.2.2 k
        generalize (getL l (k : Int)).getD ByteArray.empty = T1 at *
        have hnx := Lib.hid hjs
        clear hjs
        go_wp2_with fail
        refine (writeString (g + 1) (g + 1) (Lib.byteCells (J k)) T1 wr hbu.out (by omega) (by have := hs.out; omega)).mono ?_
        rintro en w2 ⟨rfl, hbd2, hb2⟩
        have hbu2 : Hid (Lib.IsBuilder 143 5 (g + 1) (g + 1) (Lib.byteCells (J (k + 1))) w2) := by
          unfold Hid
          rw [hnx.out, byteCells_app, ← strCells_byte]
          exact .inr hbd2
        have hp2 : Hid (Blk w2 g #[.int .i64 id, .int .i64 q, .int .i64 m, .string T] 33) := Below.blk hb2 hp.out (by omega)
        have hb3 : Hid (Below g w w2) := hb.out.trans (hb2.mono (by omega))
        have hs2 : Hid (g + 2 ≤ w2.heap.size) := Nat.le_trans hs.out hb2.size
        clear hbd2 hb2
        go_wp2_with fail
        go_roundw
        case rel => exact ⟨k + 1, by go_num, by omega, hbu2, hp2, hb3, hs2⟩
        case measure => simp [intOf]; omega
    · obtain rfl : k = m := by omega
      go_wp2_with fail
      refine (bString (g + 1) (g + 1) (J k) wr hbu.out (by have := hs.out; omega)).mono ?_
      rintro en w2 ⟨rfl, hb2⟩
      go_wp2_with fail
      go_returns
      exact ⟨rfl, hb.out.trans (hb2.mono (by omega))⟩
end Go.Proofs.Ytemfecdpjegocaa
