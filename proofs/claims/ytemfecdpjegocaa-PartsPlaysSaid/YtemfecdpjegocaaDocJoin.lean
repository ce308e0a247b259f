/- The document's joiner: Used, Drop. -/
import Derived.Test.YtemfecdpjegocaaJLaws
import Derived.Test.YtemfecdpjegocaaPartOwn
namespace Go.Proofs.Ytemfecdpjegocaa
open Go.RowKit Go.Maps
set_option linter.unusedVariables false
set_option linter.unusedSimpArgs false

/-- A slice that reads as the parts L: nil, or a block of its own. -/
def PV (w : World) (v : Value) (L : List Pt) : Prop :=
  (L = [] ∧ v = .slice none 0 0) ∨ ∃ g off cap, v = .slice (some ⟨g, off, none⟩) L.length cap ∧ g < w.heap.size ∧ ∀ (i : Nat) (h : i < L.length) (j : Nat), j < 4 → w.cell? ⟨g, off + i * 4 + j, none⟩ = L[i].cs[j]?
theorem PV.ps {w : World} {v : Value} {L : List Pt} (h : PV w v L) : PS w v L := by
  rcases h with ⟨rfl, rfl⟩ | h
  · exact .inl ⟨rfl, _, _, rfl⟩
  · exact .inr h
theorem PV.below {w w' : World} {v : Value} {L : List Pt} (h : PV w v L) (hb : Below w.heap.size w w') : PV w' v L := by
  rcases h with h | ⟨g, off, cap, hv, hlt, hc⟩
  · exact .inl h
  · exact .inr ⟨g, off, cap, hv, Nat.lt_of_lt_of_le hlt hb.size, fun i hi j hj => (hb.cell (p := ⟨g, off + i * 4 + j, none⟩) hlt).trans (hc i hi j hj)⟩
theorem OwnP.pv {w : World} {B : Nat} {e : TypeId} {v : Value} {L : List Pt} (h : OwnP w B e v L) : PV w v L := by
  have hp := h.ps
  rcases h.2 with ⟨rfl, h0⟩ | ⟨g, cap, cur, rfl, hb, hg, _⟩
  · exact .inl ⟨List.length_eq_zero_iff.1 h0, rfl⟩
  · refine .inr ⟨g, 0, cap, rfl, (Array.getElem?_eq_some_iff.1 hg).1, fun i hi j hj => ?_⟩
    rcases hp with ⟨rfl, _⟩ | ⟨g2, off2, cap2, he, _, hc⟩
    · cases hi
    · cases he; exact hc i hi j hj
theorem PV.nil (w : World) : PV w (.slice none 0 0) [] := .inl ⟨rfl, rfl⟩
theorem used_take (L : List Pt) (i : Nat) (h : i < L.length) : usedL (L.take (i + 1)) = usedL (L.take i) + L[i].text.size ∧ usedL (L.take i) + L[i].text.size ≤ usedL L := by
  have e2 : L.take (i + 1) = L.take i ++ [L[i]] := by rw [List.take_append_getElem h]
  have e : usedL L = usedL (L.take (i + 1)) + usedL (L.drop (i + 1)) := by
    unfold usedL; rw [← List.sum_append_nat, ← List.map_append, List.take_append_drop]
  rw [e2, usedL_snoc] at e
  rw [e2, usedL_snoc]
  omega

set_option maxRecDepth 100000 in
theorem doc_used {w : World} {v : Value} {L : List Pt} (h : PV w v L) (hl : L.length ≤ 100000) (hu : usedL L ≤ 1099511627776) (m o : Int) :
    Calls Try.prog 44 #[.agg #[.int .i64 m, .int .i64 o, v]] w fun en w' => en = .returned (.int .i64 (usedL L : Nat)) ∧ Below w.heap.size w w' := by
  obtain ⟨ao, cap, rfl⟩ := h.ps.slice
  obtain ⟨g, hg⟩ : ∃ g, w.heap.size = g := ⟨_, rfl⟩
  have hps := Lib.hid (h.ps.below (Below.alloc (Below.refl _ _) (Nat.le_refl _) (.cells #[.int .i64 m, .int .i64 o, .slice ao L.length cap] 84)))
  have H1 : Hid (Below g w (w.alloc (.cells #[.int .i64 m, .int .i64 o, .slice ao L.length cap] 84)) ∧ Blk (w.alloc (.cells #[.int .i64 m, .int .i64 o, .slice ao L.length cap] 84)) g #[.int .i64 m, .int .i64 o, .slice ao L.length cap] 84) := ⟨(Below.refl _ _).alloc (by omega) _, hg ▸ Blk.new w _ _⟩
  obtain ⟨N, hN⟩ : ∃ N, L.length = N := ⟨_, rfl⟩
  rw [hN] at hps H1 hl ⊢
  clear h
  go_enter Try.func44, Try.ntmps44
  go_wp2_with fail
  generalize w.alloc (.cells #[.int .i64 m, .int .i64 o, .slice ao N cap] 84) = w1 at *
  have b2 : w1.cell? ⟨g, 2, none⟩ = some (.slice ao N cap) := H1.out.2.cell 2
  go_loopw [3, 4] (fun nv iv wi => ∃ k : Nat, iv = .int .i64 k ∧ k ≤ N ∧ nv = .int .i64 (usedL (L.take k) : Nat) ∧ wi = w1) (fun _ iv _ => N - (intOf iv).toNat)
  case atStart => exact ⟨0, rfl, by omega, rfl, rfl⟩
  case round =>
    obtain ⟨k, rfl, hk, rfl, rfl⟩ := hrel
    by_cases c : k < N
    · have c' : k < L.length := by omega
      have hpp := hps.out
      rw [← hN] at hpp
      obtain ⟨gb, ob, rfl, hlb, x0, x1, x2, x3⟩ := hpp.at_ c'
      obtain ⟨hu1, hu2⟩ := used_take L k c'
      clear hpp x0 x1 x2
      generalize L[k] = q at *
      obtain ⟨qi, qn, qo, qT⟩ := q
      simp only at x3 hu1 hu2
      generalize usedL (L.take k) = U at *
      have hU : U + qT.size ≤ 1099511627776 := by omega
      have hU1 : U ≤ 1099511627776 := by omega
      have hU2 : qT.size ≤ 1099511627776 := by omega
      go_wp2_with fail
      go_roundw
      case rel => exact ⟨k + 1, by go_num, by omega, by rw [hu1]; go_num, trivial⟩
      case measure => simp [intOf]; omega
    · obtain rfl : k = N := by omega
      rw [← hN, List.take_length]
      have HB := Lib.hid H1.out.1
      go_wp2_with fail
      go_returns
      exact ⟨rfl, hg ▸ HB.out⟩

theorem drop_take (L : List Pt) (x : Int) (i : Nat) (h : i < L.length) : dropL (L.take (i + 1)) x = if L[i].id = x then dropL (L.take i) x else dropL (L.take i) x ++ [L[i]] := by
  have e2 : L.take (i + 1) = L.take i ++ [L[i]] := by rw [List.take_append_getElem h]
  rw [e2, dropL_snoc]
theorem drop_le (L : List Pt) (x : Int) : (dropL L x).length ≤ L.length := List.length_filter_le _ _
theorem drop_was (L : List Pt) (x : Int) : decide ((dropL L x).length < L.length) = decide (x ∈ idsL L) := by
  rw [decide_eq_decide]
  rw [mem_idsL]
  constructor
  · intro h
    rcases Classical.em (∃ p ∈ L, p.id = x) with h' | h'
    · exact h'
    · exfalso
      have : dropL L x = L := by
        unfold dropL
        rw [List.filter_eq_self]
        intro p hp
        have : p.id ≠ x := fun e => h' ⟨p, hp, e⟩
        simp [this]
      rw [this] at h
      omega
  · rintro ⟨p, hp, he⟩
    have : (dropL L x).length < L.length := by
      unfold dropL
      rw [List.length_filter_lt_length_iff_exists]
      exact ⟨p, hp, by simp [he]⟩
    omega
def DDropPost (m o : Int) (L : List Pt) (x : Int) (w : World) (en : Ending) (w' : World) : Prop :=
  ∃ v', en = .returned (.tuple #[.agg #[.int .i64 m, .int .i64 o, v'], .bool (decide (x ∈ idsL L))]) ∧ PV w' v' (dropL L x) ∧ Below w.heap.size w w' ∧ ∀ b, v'.ownBlock = some b → w.heap.size ≤ b

set_option maxRecDepth 100000 in
set_option maxHeartbeats 1000000 in
theorem doc_drop {w : World} {v : Value} {L : List Pt} (h : PV w v L) (hl : L.length ≤ 100000) (m o x : Int) :
    Calls Try.prog 41 #[.agg #[.int .i64 m, .int .i64 o, v], .int .i64 x] w (DDropPost m o L x w) := by
  obtain ⟨ao, cap, rfl⟩ := h.ps.slice
  obtain ⟨g, hg⟩ : ∃ g, w.heap.size = g := ⟨_, rfl⟩
  have H0 := Lib.hid h
  have hwas := Lib.hid (drop_was L x)
  obtain ⟨N, hN⟩ : ∃ N, L.length = N := ⟨_, rfl⟩
  rw [hN] at hl H0 hwas ⊢
  clear h
  go_enter Try.func41, Try.ntmps41
  go_wp2_with fail
  obtain ⟨B, hB⟩ : ∃ B, g + 2 = B := ⟨_, rfl⟩
  have HW : Hid (∀ W2, (w.alloc (.cells #[.int .i64 m, .int .i64 o, .slice ao N cap] 84)).alloc (.cells #[.int .i64 0, .int .i64 0, .slice none 0 0] 84) = W2 →
      Below g w W2 ∧ Blk W2 g #[.int .i64 m, .int .i64 o, .slice ao N cap] 84 ∧ Blk W2 (g + 1) #[.int .i64 0, .int .i64 0, .slice none 0 0] 84 ∧ PV W2 (.slice ao N cap) L ∧ W2.heap.size = B) := fun W2 hW => by
    subst hW
    have h2 := Blk.new (w.alloc (.cells #[.int .i64 m, .int .i64 o, .slice ao N cap] 84)) #[.int .i64 0, .int .i64 0, .slice none 0 0] 84
    rw [World.size_alloc, hg] at h2
    exact ⟨((Below.refl _ _).alloc (by omega) _).alloc (by simp; omega) _, (hg ▸ Blk.new w _ _).alloc _, h2, (H0.out.below ((Below.refl _ _).alloc (Nat.le_refl _) _)).below ((Below.refl _ _).alloc (Nat.le_refl _) _), by simp; omega⟩
  generalize (w.alloc (.cells #[.int .i64 m, .int .i64 o, .slice ao N cap] 84)).alloc (.cells #[.int .i64 0, .int .i64 0, .slice none 0 0] 84) = w1 at *
  have H1 := Lib.hid (HW.out _ rfl)
  clear HW
  go_loopw [6, 7] (fun lv iv wi => ∃ k : Nat, iv = .int .i64 k ∧ k ≤ N ∧ Hid (OwnP wi B 31 lv (dropL (L.take k) x)) ∧ Hid (Below B w1 wi)) (fun _ iv _ => N - (intOf iv).toNat)
  case atStart => exact ⟨0, rfl, by omega, OwnP.nil _ _ _, Below.refl _ _⟩
  case round =>
    obtain ⟨k, rfl, hk, hown, hbe⟩ := hrel
    have b0 : wr.cell? ⟨g, 0, none⟩ = some (.int .i64 m) := (Below.blk hbe.out H1.out.2.1 (by omega)).cell 0
    have b1 : wr.cell? ⟨g, 1, none⟩ = some (.int .i64 o) := (Below.blk hbe.out H1.out.2.1 (by omega)).cell 1
    have b2 : wr.cell? ⟨g, 2, none⟩ = some (.slice ao N cap) := (Below.blk hbe.out H1.out.2.1 (by omega)).cell 2
    have hBr : B ≤ wr.heap.size := by have := hbe.out.size; have := H1.out.2.2.2.2; omega
    obtain ⟨lo, lc, hlv⟩ := hown.out.ps.slice
    subst hlv
    by_cases c : k < N
    · have c' : k < L.length := by omega
      have hpp := H1.out.2.2.2.1.ps
      rw [← hN] at hpp
      obtain ⟨gb, ob, rfl, hlb, x0, x1, x2, x3⟩ := hpp.at_ c'
      have hlb2 : gb < B := by have := H1.out.2.2.2.2; omega
      have y0 := (hbe.out.cell (p := ⟨gb, ob + k * 4, none⟩) hlb2).trans x0
      have y1 := (hbe.out.cell (p := ⟨gb, ob + k * 4 + 1, none⟩) hlb2).trans x1
      have y2 := (hbe.out.cell (p := ⟨gb, ob + k * 4 + 2, none⟩) hlb2).trans x2
      have y3 := (hbe.out.cell (p := ⟨gb, ob + k * 4 + 3, none⟩) hlb2).trans x3
      have hdt := drop_take L x k c'
      have hln : (dropL (L.take k) x).length ≤ 100000 := by
        have := drop_le (L.take k) x
        rw [List.length_take] at this
        omega
      clear hpp x0 x1 x2 x3
      generalize L[k] = q at *
      obtain ⟨qi, qn, qo, qT⟩ := q
      simp only at y0 y1 y2 y3 hdt
      by_cases hid : qi = x
      · rw [if_pos hid] at hdt
        have hHD := Lib.hid hdt
        have hbi : (qi != x) = false := by simp; exact hid
        clear hdt hid
        go_wp2_with fail
        go_roundw
        case rel => exact ⟨k + 1, by go_num, by omega, by rw [hHD.out]; exact hown, hbe⟩
        case measure => simp [intOf]; omega
      · rw [if_neg hid] at hdt
        have hHD := Lib.hid hdt
        have hbi : (qi != x) = true := by simp; exact hid
        clear hdt hid
        go_wp2_with (at_builtin; refine append_part rpart_types rfl (.tmp 24) (.tmp 30) rfl B _ (dropL (L.take k) x) ⟨qi, qn, qo, qT⟩ wr _ rfl rfl hown.out rfl (by omega) hBr ?_; intro v2 w2 hown2 hb2 hsz2)
        go_roundw
        case rel => exact ⟨k + 1, by go_num, by omega, by rw [hHD.out]; exact hown2, hbe.out.trans hb2⟩
        case measure => simp [intOf]; omega
    · obtain rfl : k = N := by omega
      have ht : L.take k = L := by rw [← hN, List.take_length]
      rw [ht] at hown ⊢
      obtain ⟨M, hM⟩ : ∃ M, (dropL L x).length = M := ⟨_, rfl⟩
      have hMl : M ≤ 100000 := by have := drop_le L x; omega
      rw [hM] at hown hwas ⊢
      have HK1 := Lib.hid (Below.blk hbe.out H1.out.2.1 (by omega))
      have HK2 := Lib.hid (Below.blk hbe.out H1.out.2.2.1 (by omega))
      have HOWN := Lib.hid hown
      have HBE := Lib.hid hbe
      have f2 := fun i => HK1.out.free i
      have f3 := fun i => HK2.out.free i
      have c0 : wr.cell? ⟨g + 1, 0, none⟩ = some (.int .i64 0) := HK2.out.cell 0
      have c1 : wr.cell? ⟨g + 1, 1, none⟩ = some (.int .i64 0) := HK2.out.cell 1
      have c2 : wr.cell? ⟨g + 1, 2, none⟩ = some (.slice none 0 0) := HK2.out.cell 2
      clear hown hbe
      go_wp2_with fail
      have e1 := (((HK2.out.setOther (a := ⟨g, 2, none⟩) (by simp) (.slice lo M lc)).set 0 (.int .i64 m)).set 1 (.int .i64 o)).set 2 (.slice lo M lc)
      simp only [List.setIfInBounds_toArray, List.set_cons_zero, List.set_cons_succ] at e1
      have e2 : Below g w ((((wr.setCell ⟨g, 2, none⟩ (.slice lo M lc)).setCell ⟨g + 1, 0, none⟩ (.int .i64 m)).setCell ⟨g + 1, 1, none⟩ (.int .i64 o)).setCell ⟨g + 1, 2, none⟩ (.slice lo M lc)) :=
        (((((H1.out.1.trans (HBE.out.mono (by omega))).setCell (by simp) _).setCell (by simp) _).setCell (by simp) _).setCell (by simp) _)
      have e3 : ∀ b, B ≤ b → ((((wr.setCell ⟨g, 2, none⟩ (.slice lo M lc)).setCell ⟨g + 1, 0, none⟩ (.int .i64 m)).setCell ⟨g + 1, 1, none⟩ (.int .i64 o)).setCell ⟨g + 1, 2, none⟩ (.slice lo M lc)).heap[b]? = wr.heap[b]? := fun b hb => by
        rw [Below.heap_setCell _ _ _ _ (by simp; omega), Below.heap_setCell _ _ _ _ (by simp; omega), Below.heap_setCell _ _ _ _ (by simp; omega), Below.heap_setCell _ _ _ _ (by simp; omega)]
      generalize (((wr.setCell ⟨g, 2, none⟩ (.slice lo M lc)).setCell ⟨g + 1, 0, none⟩ (.int .i64 m)).setCell ⟨g + 1, 1, none⟩ (.int .i64 o)).setCell ⟨g + 1, 2, none⟩ (.slice lo M lc) = WF at *
      have d0 := e1.cell 0
      have d1 := e1.cell 1
      have d2 := e1.cell 2
      simp at d0 d1 d2
      have e4 : OwnP WF B 31 (.slice lo M lc) (dropL L x) := HOWN.out.kept fun b hb => e3 b (HOWN.out.block b hb).1
      refine bodyPost_ret (v := .tuple #[.agg #[.int .i64 m, .int .i64 o, .slice lo M lc], .bool (decide (M < k))]) (by simp [results, Try.results41, go_sem, d0, d1, d2]) rfl ?_
      exact ⟨.slice lo M lc, by rw [← hwas.out], e4.pv, hg ▸ e2, fun b hb => by have := (HOWN.out.block b hb).1; omega⟩
end Go.Proofs.Ytemfecdpjegocaa
