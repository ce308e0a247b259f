/- The walk of the document's Add, of a part that may be. -/
import Derived.Test.YtemfecdpjegocaaDocAddR
import Derived.Deep.RegionHeld3
namespace Go.Proofs.Ytemfecdpjegocaa
open Go.RowKit Go.Maps
set_option linter.unusedVariables false
set_option linter.unusedSimpArgs false

/-- The memory of the document's Add behind its first loop's round k. -/
structure DAt (g tb : Nat) (m o : Int) (v : Value) (p : Pt) (ofn : Nat) (X : List ByteArray) (L : List Pt) (w W : World) : Prop where
  bel : Below g w W
  bj : Blk W g #[.int .i64 m, .int .i64 o, v] 84
  bp : Blk W (g + 1) p.cs 31
  br : Blk W (g + 2) #[.int .i64 0, .int .i64 0, .slice none 0 0] 84
  bt : Blk W tb (sC X) 9
  pv : PV W v L
  lt : g + 2 < tb
  pvlt : ∀ b, v.ownBlock = some b → b < g
theorem DAt.step {g tb : Nat} {m o : Int} {v : Value} {p : Pt} {ofn : Nat} {X Y : List ByteArray} {L : List Pt} {w W W' : World} (h : DAt g tb m o v p ofn X L w W) (hu : Upd tb W W') (hY : Blk W' tb (sC Y) 9) : DAt g tb m o v p ofn Y L w W' := by
  have := h.lt
  refine ⟨hu.below h.bel (by omega) (by have := h.bj.lt; omega), hu.blk h.bj (by omega), hu.blk h.bp (by omega), hu.blk h.br (by omega), hY, ?_, h.lt, h.pvlt⟩
  rcases h.pv with h' | ⟨gb, off, cap, hv, hlt, hc⟩
  · exact .inl h'
  · have hgb := h.pvlt gb (by rw [hv]; rfl)
    refine .inr ⟨gb, off, cap, hv, Nat.lt_of_lt_of_le hlt hu.size, fun i hi j hj => ?_⟩
    rw [← hc i hi j hj]
    exact World.cell?_of_block (hu.block gb hlt (by simp; omega))
theorem DAt.below {g tb : Nat} {m o : Int} {v : Value} {p : Pt} {ofn : Nat} {X : List ByteArray} {L : List Pt} {w W W' : World} (h : DAt g tb m o v p ofn X L w W) (hb : Below W.heap.size W W') : DAt g tb m o v p ofn X L w W' :=
  h.step (Upd.of hb) (Below.blk hb h.bt h.bt.lt)
theorem getD_lt {l : List ByteArray} {j : Nat} (h : j < l.length) : l.getD j ByteArray.empty = l[j] := by rw [List.getD_eq_getElem?_getD, List.getElem?_eq_getElem h]; rfl
theorem PV.other {w w' : World} {v : Value} {L : List Pt} (h : PV w v L) (hk : ∀ b, v.ownBlock = some b → w'.heap[b]? = w.heap[b]?) : PV w' v L := by
  rcases h with h | ⟨g, off, cap, hv, hlt, hc⟩
  · exact .inl h
  · have hb := hk g (by rw [hv]; rfl)
    refine .inr ⟨g, off, cap, hv, ?_, fun i hi j hj => by rw [← hc i hi j hj]; exact World.cell?_of_block hb⟩
    have h1 : w.heap[g]? = some (w.heap[g]'hlt) := Array.getElem?_eq_getElem hlt
    rw [h1] at hb
    exact (Array.getElem?_eq_some_iff.1 hb).1

theorem DAddPost.err {w : World} {v : Value} {L : List Pt} {m o e : Int} {p : Pt} (h : PV w v L) (he : addJ m o L p = (L, ByteArray.empty, false, e)) :
    Hid (∀ W, Below w.heap.size w W → DAddPost v m o L p w (.returned (.tuple #[.agg #[.int .i64 m, .int .i64 o, v], .string ⟨#[]⟩, .bool false, .int .i64 e])) W) := fun W hb => by
  refine ⟨v, ?_, ?_, hb, fun b h => .inl h⟩
  · rw [he]; rfl
  · rw [he]; exact h.below hb

set_option maxRecDepth 100000 in
set_option maxHeartbeats 4000000 in
theorem doc_add_may {w : World} {v : Value} {L : List Pt} (h : PV w v L) (p : Pt) (hm : mayP p) (m o : Int) (hl : L.length ≤ 1000) (hu : usedL L ≤ 1099511627776) (hall : ∀ q ∈ L, mayP q) (of1 : ∀ q ∈ L, q.of_ = ofL L q.id)
    (hnd : ((partsOf L p.id).map Prod.fst).Nodup) (hmb : 0 ≤ m ∧ m ≤ 1099511627776) (hob : 0 ≤ o ∧ o ≤ 100000) :
    Calls Try.prog 42 #[.agg #[.int .i64 m, .int .i64 o, v], .agg p.cs] w (DAddPost v m o L p w) := by
  obtain ⟨ao, cap, rfl⟩ := h.ps.slice
  obtain ⟨g, hg⟩ : ∃ g, w.heap.size = g := ⟨_, rfl⟩
  have CM := Lib.hid (fun w => ref_may p w (mayP_wfD hm))
  have hmt : decide (mayP p) = true := decide_eq_true hm
  have HM := Lib.hid hm
  have HS := Lib.hid (fun q hq hid hbad => add_state (most := m) (open_ := o) (L := L) (p := p) hm of1 (q := q) hq hid hbad)
  have HWH := Lib.hid (add_whole (most := m) (open_ := o) (L := L) (p := p) hm of1)
  have HMY := Lib.hid (add_many (most := m) (open_ := o) (L := L) (p := p) hm of1)
  have HOV := Lib.hid (add_over (most := m) (open_ := o) (L := L) (p := p) hm of1)
  have HMO := Lib.hid (add_more (most := m) (open_ := o) (L := L) (p := p) hm of1)
  have HAL := Lib.hid hall
  have HND := Lib.hid hnd
  have H0 := Lib.hid h
  obtain ⟨N, hN⟩ : ∃ N, L.length = N := ⟨_, rfl⟩
  rw [hN] at hl H0 ⊢
  clear h of1 hall hnd
  obtain ⟨pi, pn, po, pT⟩ := p
  obtain ⟨⟨hi0, hi1⟩, ⟨ho0, ho1⟩, ⟨hn0, hn1⟩, hT, _⟩ := hm
  simp only at hi0 hi1 ho0 ho1 hn0 hn1 hT
  obtain ⟨i0, rfl⟩ : ∃ a : Nat, pi = a := ⟨pi.toNat, by omega⟩
  obtain ⟨n0, rfl⟩ : ∃ a : Nat, pn = a := ⟨pn.toNat, by omega⟩
  obtain ⟨ofn, rfl⟩ : ∃ a : Nat, po = a := ⟨po.toNat, by omega⟩
  simp only [Pt.cs] at CM ⊢
  have HW : Hid (∀ W2, ((w.alloc (.cells #[.int .i64 m, .int .i64 o, .slice ao N cap] 84)).alloc (.cells #[.int .i64 i0, .int .i64 n0, .int .i64 ofn, .string pT] 31)).alloc (.cells #[.int .i64 0, .int .i64 0, .slice none 0 0] 84) = W2 →
      Below g w W2 ∧ Blk W2 g #[.int .i64 m, .int .i64 o, .slice ao N cap] 84 ∧ Blk W2 (g + 1) #[.int .i64 i0, .int .i64 n0, .int .i64 ofn, .string pT] 31 ∧ Blk W2 (g + 2) #[.int .i64 0, .int .i64 0, .slice none 0 0] 84 ∧ W2.heap.size = g + 3) := fun W2 hW => by
    subst hW
    have h1 := Blk.new (w.alloc (.cells #[.int .i64 m, .int .i64 o, .slice ao N cap] 84)) #[.int .i64 i0, .int .i64 n0, .int .i64 ofn, .string pT] 31
    have h2 := Blk.new ((w.alloc (.cells #[.int .i64 m, .int .i64 o, .slice ao N cap] 84)).alloc (.cells #[.int .i64 i0, .int .i64 n0, .int .i64 ofn, .string pT] 31)) #[.int .i64 0, .int .i64 0, .slice none 0 0] 84
    rw [World.size_alloc, hg] at h1
    rw [World.size_alloc, World.size_alloc, hg] at h2
    exact ⟨(((Below.refl _ _).alloc (by omega) _).alloc (by simp; omega) _).alloc (by simp; omega) _, ((hg ▸ Blk.new w _ _).alloc _).alloc _, h1.alloc _, h2, by simp; omega⟩
  go_enter Try.func42, Try.ntmps42
  go_wp2_with fail
  generalize ((w.alloc (.cells #[.int .i64 m, .int .i64 o, .slice ao N cap] 84)).alloc (.cells #[.int .i64 i0, .int .i64 n0, .int .i64 ofn, .string pT] 31)).alloc (.cells #[.int .i64 0, .int .i64 0, .slice none 0 0] 84) = w1 at *
  have H1 := Lib.hid (HW.out _ rfl)
  clear HW
  refine (CM.out _).mono ?_
  rintro e w2 ⟨rfl, hb2⟩
  rw [hmt]
  have hsz := H1.out.2.2.2.2
  obtain ⟨tb, htb⟩ : ∃ tb, w2.heap.size = tb := ⟨_, rfl⟩
  have htb2 : g + 2 < tb := by have := hb2.size; omega
  have hmk := make_texts ofn (by omega) w2
  rw [htb] at hmk
  have hp2 : w2.cell? ⟨g + 1, 2, none⟩ = some (.int .i64 ofn) := (Below.blk hb2 H1.out.2.2.1 (by omega)).cell 2
  have HD : Hid (DAt g tb m o (.slice ao N cap) ⟨i0, n0, ofn, pT⟩ ofn (txtL (L.take 0) i0 ofn) L w (w2.alloc (.cells (sC (List.replicate ofn ByteArray.empty)) 9))) := by
    have hbb : Below g w w2 := H1.out.1.trans (hb2.mono (by omega))
    refine ⟨hbb.alloc (by omega) _, (Below.blk hb2 H1.out.2.1 (by omega)).alloc _, (Below.blk hb2 H1.out.2.2.1 (by omega)).alloc _, (Below.blk hb2 H1.out.2.2.2.1 (by omega)).alloc _, ?_, (H0.out.below (hg ▸ hbb)).below ((Below.refl _ _).alloc (Nat.le_refl _) _), htb2, fun b hb => hg ▸ H0.out.blockLt b hb⟩
    have := Blk.new w2 (sC (List.replicate ofn ByteArray.empty)) 9
    rw [htb] at this
    rw [List.take_zero, txtL_nil]; exact this
  clear H1 hb2 hmt CM
  go_wp2_with fail
  generalize w2.alloc (.cells (sC (List.replicate ofn ByteArray.empty)) 9) = w3 at *
  clear hmk htb
  go_loopw [9, 10, 11] (fun nv iv qv wi => ∃ k : Nat, iv = .int .i64 k ∧ k ≤ N ∧ nv = .int .i64 ((partsOf (L.take k) i0).length : Nat) ∧ Hid (DAt g tb m o (.slice ao N cap) ⟨i0, n0, ofn, pT⟩ ofn (txtL (L.take k) i0 ofn) L w wi) ∧ Hid (∀ q ∈ L.take k, q.id = i0 → q.of_ = ofn ∧ q.n ≠ n0)) (fun _ iv _ _ => N - (intOf iv).toNat)
  case atStart => exact ⟨0, rfl, by omega, rfl, HD, fun q hq => by simp at hq⟩
  case round =>
    obtain ⟨k, rfl, hk, rfl, hd, hok⟩ := hrel
    clear HD
    have b0 : wr.cell? ⟨g, 0, none⟩ = some (.int .i64 m) := hd.out.bj.cell 0
    have b1 : wr.cell? ⟨g, 1, none⟩ = some (.int .i64 o) := hd.out.bj.cell 1
    have b2 : wr.cell? ⟨g, 2, none⟩ = some (.slice ao N cap) := hd.out.bj.cell 2
    have p0 : wr.cell? ⟨g + 1, 0, none⟩ = some (.int .i64 i0) := hd.out.bp.cell 0
    have p1 : wr.cell? ⟨g + 1, 1, none⟩ = some (.int .i64 n0) := hd.out.bp.cell 1
    have p2 : wr.cell? ⟨g + 1, 2, none⟩ = some (.int .i64 ofn) := hd.out.bp.cell 2
    have p3 : wr.cell? ⟨g + 1, 3, none⟩ = some (.string pT) := hd.out.bp.cell 3
    by_cases c : k < N
    · have c' : k < L.length := by omega
      have hpp := hd.out.pv.ps
      rw [← hN] at hpp
      obtain ⟨gb, ob, rfl, hlb, y0, y1, y2, y3⟩ := hpp.at_ c'
      have htk := take_snoc L k c'
      have hqm : L[k] ∈ L := List.getElem_mem c'
      have hqp := HAL.out _ hqm
      have hqs := Lib.hid (HS.out _ hqm)
      have hpl : (partsOf (L.take k) i0).length ≤ 1000 := by
        unfold partsOf
        rw [List.length_map]
        have := List.length_filter_le (fun p => p.id == (i0 : Int)) (L.take k)
        rw [List.length_take] at this
        omega
      clear hpp
      have hndk : ((partsOf (L.take (k + 1)) i0).map Prod.fst).Nodup := by
        refine HND.out.sublist ?_
        unfold partsOf
        exact ((List.take_sublist _ _).filter _ |>.map _).map _
      rw [htk] at hndk
      generalize hq : L[k] = q at *
      obtain ⟨qi, qn, qo, qT⟩ := q
      simp only at y0 y1 y2 y3 hqs
      go_upto_region 9 with fail
      have HWQ : Hid (∀ W, wr.alloc (.cells #[.int .i64 qi, .int .i64 qn, .int .i64 qo, .string qT] 31) = W → DAt g tb m o (.slice (some ⟨gb, ob, none⟩) N cap) ⟨i0, n0, ofn, pT⟩ ofn (txtL (L.take k) i0 ofn) L w W ∧ Blk W wr.heap.size #[.int .i64 qi, .int .i64 qn, .int .i64 qo, .string qT] 31 ∧ tb < wr.heap.size) := fun W hW => by
        subst hW
        exact ⟨hd.out.below ((Below.refl _ _).alloc (Nat.le_refl _) _), Blk.new _ _ _, hd.out.bt.lt⟩
      generalize wr.alloc (.cells #[.int .i64 qi, .int .i64 qn, .int .i64 qo, .string qT] 31) = wq at *
      obtain ⟨hdq, hbq, htq⟩ := HWQ.out _ rfl
      have HDQ := Lib.hid hdq
      have HBQ := Lib.hid hbq
      clear HWQ hd hdq hbq b0 b1 b2 p0 p1 p2 p3 y0 y1 y2 y3
      generalize wr.heap.size = hq at *
      have b0 : wq.cell? ⟨g, 0, none⟩ = some (.int .i64 m) := HDQ.out.bj.cell 0
      have b1 : wq.cell? ⟨g, 1, none⟩ = some (.int .i64 o) := HDQ.out.bj.cell 1
      have b2 : wq.cell? ⟨g, 2, none⟩ = some (.slice (some ⟨gb, ob, none⟩) N cap) := HDQ.out.bj.cell 2
      have p0 : wq.cell? ⟨g + 1, 0, none⟩ = some (.int .i64 i0) := HDQ.out.bp.cell 0
      have p1 : wq.cell? ⟨g + 1, 1, none⟩ = some (.int .i64 n0) := HDQ.out.bp.cell 1
      have p2 : wq.cell? ⟨g + 1, 2, none⟩ = some (.int .i64 ofn) := HDQ.out.bp.cell 2
      have q0 : wq.cell? ⟨hq, 0, none⟩ = some (.int .i64 qi) := HBQ.out.cell 0
      have q1 : wq.cell? ⟨hq, 1, none⟩ = some (.int .i64 qn) := HBQ.out.cell 1
      have q2 : wq.cell? ⟨hq, 2, none⟩ = some (.int .i64 qo) := HBQ.out.cell 2
      have q3 : wq.cell? ⟨hq, 3, none⟩ = some (.string qT) := HBQ.out.cell 3
      by_cases hid : qi = i0
      case neg =>
        have hbi : (qi != i0) = true := by simp; exact hid
        have hR : Hid (DAt g tb m o (.slice (some ⟨gb, ob, none⟩) N cap) ⟨i0, n0, ofn, pT⟩ ofn (txtL (L.take (k + 1)) i0 ofn) L w wq) := by
          rw [htk, txtL_other (by simpa using hid)]; exact HDQ.out
        have hok2 : Hid (∀ q ∈ L.take (k + 1), q.id = i0 → q.of_ = ofn ∧ q.n ≠ n0) := by
          rw [htk]
          intro q hq he
          rcases List.mem_append.1 hq with hq | hq
          · exact hok.out q hq he
          · simp at hq; subst hq; exact absurd he hid
        have hpl2 : (partsOf (L.take (k + 1)) i0).length = (partsOf (L.take k) i0).length := by rw [htk, partsOf_snoc, if_neg (by simpa using hid)]
        clear hid hqs hndk hok
        go_wp2_with fail
        go_roundw
        case rel => exact ⟨k + 1, by go_num, by omega, by rw [hpl2], hR, hok2⟩
        case measure => simp [intOf]; omega
      case pos =>
        subst hid
        have c0 : wq.cell? ⟨g + 2, 0, none⟩ = some (.int .i64 0) := HDQ.out.br.cell 0
        have c1 : wq.cell? ⟨g + 2, 1, none⟩ = some (.int .i64 0) := HDQ.out.br.cell 1
        have c2 : wq.cell? ⟨g + 2, 2, none⟩ = some (.slice none 0 0) := HDQ.out.br.cell 2
        have f2 := fun i => HDQ.out.br.free i
        by_cases hbad : qo ≠ ofn ∨ qn = n0
        · have he := hqs.out rfl hbad
          have HF : Hid (∀ W, Below g w W → DAddPost (.slice (some ⟨gb, ob, none⟩) N cap) m o L ⟨i0, n0, ofn, pT⟩ w (.returned (.tuple #[.agg #[.int .i64 m, .int .i64 o, .slice (some ⟨gb, ob, none⟩) N cap], .string ⟨#[]⟩, .bool false, .int .i64 8])) W) := fun W h3 => by
            refine ⟨.slice (some ⟨gb, ob, none⟩) N cap, ?_, ?_, hg ▸ h3, fun b h => .inl h⟩
            · rw [he]; rfl
            · rw [he]; exact H0.out.below (hg ▸ h3)
          have hdd : (qo != (ofn : Int)) = true ∨ ((qo != (ofn : Int)) = false ∧ (qn == (n0 : Int)) = true) := by
            by_cases e1 : qo = ofn
            · right
              rcases hbad with h | h
              · exact absurd e1 h
              · exact ⟨by simp; exact e1, by simp; exact h⟩
            · left; simp; exact e1
          clear hqs hndk hok HND HAL he hbad
          rcases hdd with e1 | ⟨e1, e2⟩
          all_goals
            go_wp2_with fail
            obtain ⟨e1, e2, e3⟩ := set3 HDQ.out.br HDQ.out.bel (by omega) (.int .i64 m) (.int .i64 o) (.slice (some ⟨gb, ob, none⟩) N cap)
            generalize ((wq.setCell ⟨g + 2, 0, none⟩ (.int .i64 m)).setCell ⟨g + 2, 1, none⟩ (.int .i64 o)).setCell ⟨g + 2, 2, none⟩ (.slice (some ⟨gb, ob, none⟩) N cap) = WF at *
            have d0 := e1.cell 0
            have d1 := e1.cell 1
            have d2 := e1.cell 2
            simp at d0 d1 d2
            refine bodyPost_ret (v := .tuple #[.agg #[.int .i64 m, .int .i64 o, .slice (some ⟨gb, ob, none⟩) N cap], .string ⟨#[]⟩, .bool false, .int .i64 8]) (by simp [results, Try.results42, go_sem, d0, d1, d2]) rfl ?_
            exact HF.out _ e2
        · obtain ⟨hqo, hqn⟩ : qo = ofn ∧ qn ≠ n0 := by
            constructor
            · exact Classical.byContradiction fun h => hbad (.inl h)
            · exact fun h => hbad (.inr h)
          subst hqo
          obtain ⟨⟨_, _⟩, ⟨_, _⟩, ⟨hn0', hn1'⟩, _, _⟩ := hqp
          simp only at hn0' hn1'
          obtain ⟨a, rfl⟩ : ∃ a : Nat, qn = a := ⟨qn.toNat, by omega⟩
          have halt : a < ofn := by omega
          have hak : (a : Int) ∉ (partsOf (L.take k) i0).map Prod.fst := by
            rw [partsOf_snoc, if_pos rfl, List.map_append, List.nodup_append] at hndk
            intro hc
            exact hndk.2.2 _ hc _ (by simp) rfl
          have hstep := txtL_step (K := L.take k) (id := (i0 : Int)) (ofn := ofn) (q := ⟨i0, a, ofn, qT⟩) rfl rfl halt hak
          rw [← htk] at hstep
          have hpl2 : (partsOf (L.take (k + 1)) i0).length = (partsOf (L.take k) i0).length + 1 := by rw [htk, partsOf_snoc, if_pos rfl]; simp
          have hR : Hid (DAt g tb m o (.slice (some ⟨gb, ob, none⟩) N cap) ⟨i0, n0, ofn, pT⟩ ofn (txtL (L.take (k + 1)) i0 ofn) L w (wq.setCell ⟨tb, a, none⟩ (.string qT))) := by
            have h1 := HDQ.out.bt.set a (.string qT)
            rw [sC_set, ← hstep] at h1
            exact HDQ.out.step ((Upd.refl _ _).set _ _) h1
          have hok2 : Hid (∀ q ∈ L.take (k + 1), q.id = i0 → q.of_ = ofn ∧ q.n ≠ n0) := by
            rw [htk]
            intro q hq he
            rcases List.mem_append.1 hq with hq | hq
            · exact hok.out q hq he
            · simp at hq; subst hq; exact ⟨rfl, hqn⟩
          have hbi : ((a : Int) == (n0 : Int)) = false := by simp; omega
          have hXl := txtL_len (L.take k) i0 ofn
          have t0 : wq.cell? ⟨tb, a, none⟩ = some (.string (txtL (L.take k) i0 ofn)[a]) := by
            rw [HDQ.out.bt.cell, sC_at _ _ (by omega)]
          have ft := fun i => HDQ.out.bt.free i
          clear hqs hndk hok hbad hstep hak HND
          go_wp2_with fail
          go_roundw
          case rel => exact ⟨k + 1, by go_num, by omega, by rw [hpl2]; go_num, hR, hok2⟩
          case measure => simp [intOf]; omega
    · obtain rfl : k = N := by omega
      have ht : L.take k = L := by rw [← hN, List.take_length]
      rw [ht] at hd hok ⊢
      have hXl := txtL_len L i0 ofn
      have hn0l : n0 < ofn := by omega
      have t0 : wr.cell? ⟨tb, n0, none⟩ = some (.string ((txtL L i0 ofn)[n0]'(by omega))) := by
        rw [hd.out.bt.cell, sC_at _ _ (by omega)]
      have ft := fun i => hd.out.bt.free i
      have hpl : (partsOf L i0).length ≤ 1000 := by
        unfold partsOf
        rw [List.length_map]
        have := List.length_filter_le (fun p => p.id == (i0 : Int)) L
        omega
      go_upto_region 15 with fail
      have HWT : Hid (∀ W, wr.setCell ⟨tb, n0, none⟩ (.string pT) = W → DAt g tb m o (.slice ao k cap) ⟨i0, n0, ofn, pT⟩ ofn (lastT L ⟨i0, n0, ofn, pT⟩ ofn n0) L w W) := fun W hW => by
        subst hW
        have h1 := hd.out.bt.set n0 (.string pT)
        rw [sC_set] at h1
        exact hd.out.step ((Upd.refl _ _).set _ _) h1
      generalize wr.setCell ⟨tb, n0, none⟩ (.string pT) = wt at *
      have HD2 := Lib.hid (HWT.out _ rfl)
      clear HWT hd b0 b1 b2 p0 p1 p2 p3 t0 ft HND
      have b0 : wt.cell? ⟨g, 0, none⟩ = some (.int .i64 m) := HD2.out.bj.cell 0
      have b1 : wt.cell? ⟨g, 1, none⟩ = some (.int .i64 o) := HD2.out.bj.cell 1
      have b2 : wt.cell? ⟨g, 2, none⟩ = some (.slice ao k cap) := HD2.out.bj.cell 2
      have p0 : wt.cell? ⟨g + 1, 0, none⟩ = some (.int .i64 i0) := HD2.out.bp.cell 0
      have p1 : wt.cell? ⟨g + 1, 1, none⟩ = some (.int .i64 n0) := HD2.out.bp.cell 1
      have p2 : wt.cell? ⟨g + 1, 2, none⟩ = some (.int .i64 ofn) := HD2.out.bp.cell 2
      have p3 : wt.cell? ⟨g + 1, 3, none⟩ = some (.string pT) := HD2.out.bp.cell 3
      by_cases hwh : (partsOf L i0).length + 1 = ofn
      · have hwh2 := HWH.out hok.out (by show ((partsOf L (i0 : Int)).length : Int) + 1 = (ofn : Int); omega)
        have hbi : (((partsOf L (i0 : Int)).length : Int) + 1 == (ofn : Int)) = true := by simp; omega
        have hTS : Hid (∀ j (hj : j < ofn), ((lastT L ⟨i0, n0, ofn, pT⟩ ofn n0).getD j ByteArray.empty).size ≤ 65536) := fun j hj => by
          rw [getD_lt (h := by simp [lastT, txtL]; exact hj)]; exact lastT_size rfl hj hT fun q hq => (HAL.out q hq).2.2.2.1
        have hJS : Hid (∀ j (hj : j < ofn), (⟨(joinTo (partsOf L i0) ⟨i0, n0, ofn, pT⟩ (j + 1)).toArray⟩ : ByteArray) = (⟨(joinTo (partsOf L i0) ⟨i0, n0, ofn, pT⟩ j).toArray⟩ : ByteArray) ++ (lastT L ⟨i0, n0, ofn, pT⟩ ofn n0).getD j ByteArray.empty) := fun j hj => by
          rw [getD_lt (h := by simp [lastT, txtL]; exact hj)]; exact join_step (K := L) (p := ⟨i0, n0, ofn, pT⟩) rfl hj
        have hlt : (lastT L ⟨i0, n0, ofn, pT⟩ ofn n0).length = ofn := by simp [lastT, txtL]
        have HF : Hid (∀ v' W, PV W v' (dropL L i0) → Below g w W → (∀ b, v'.ownBlock = some b → g ≤ b) → DAddPost (.slice ao k cap) m o L ⟨i0, n0, ofn, pT⟩ w (.returned (.tuple #[.agg #[.int .i64 m, .int .i64 o, v'], .string ⟨(joinTo (partsOf L i0) ⟨i0, n0, ofn, pT⟩ ofn).toArray⟩, .bool true, .int .i64 0])) W) := fun v' W h2 h3 h4 => by
          refine ⟨v', ?_, ?_, hg ▸ h3, fun b hb => .inr (hg ▸ h4 b hb)⟩
          · rw [hwh2]; rfl
          · rw [hwh2]; exact h2
        clear hwh2 HS HMY HOV HMO HM hok HWH
        obtain ⟨JT, hJT⟩ : ∃ JT : Nat → ByteArray, JT = fun j => ⟨(joinTo (partsOf L i0) ⟨i0, n0, ofn, pT⟩ j).toArray⟩ := ⟨_, rfl⟩
        have hJS2 : Hid (∀ j (hj : j < ofn), JT (j + 1) = JT j ++ (lastT L ⟨i0, n0, ofn, pT⟩ ofn n0).getD j ByteArray.empty) := fun j hj => by rw [hJT]; exact hJS.out j hj
        have hJ0 : Hid (JT 0 = ByteArray.empty) := by rw [hJT]; rfl
        have HF2 : Hid (∀ v' W, PV W v' (dropL L i0) → Below g w W → (∀ b, v'.ownBlock = some b → g ≤ b) → DAddPost (.slice ao k cap) m o L ⟨i0, n0, ofn, pT⟩ w (.returned (.tuple #[.agg #[.int .i64 m, .int .i64 o, v'], .string (JT ofn), .bool true, .int .i64 0])) W) := by rw [hJT]; exact HF
        clear hJT hJS HF
        generalize lastT L ⟨i0, n0, ofn, pT⟩ ofn n0 = F at *
        go_wp2_with fail
        go_loopw [12, 13] (fun sv iv wi => ∃ (j : Nat) (S : ByteArray), iv = .int .i64 j ∧ j ≤ ofn ∧ sv = .string S ∧ S.size ≤ j * 65536 ∧ Hid (S = JT j) ∧ wi = wt) (fun _ iv _ => ofn - (intOf iv).toNat)
        case atStart => exact ⟨0, ByteArray.empty, rfl, by omega, rfl, by simp, hJ0.out.symm, rfl⟩
        case round =>
          obtain ⟨j, S, rfl, hj, rfl, hSs, hSJ, rfl⟩ := hrel
          by_cases c2 : j < ofn
          · have hst := hJS2.out j c2
            have hts := hTS.out j c2
            have tj : wr.cell? ⟨tb, j, none⟩ = some (.string (F.getD j ByteArray.empty)) := by
              rw [HD2.out.bt.cell, sC_at _ _ (by omega), getD_lt]
            generalize F.getD j ByteArray.empty = T at *
            have hS2 : S.size ≤ 67108864 := by omega
            have hnx : Hid (S ++ T = JT (j + 1)) := by rw [hst, ← hSJ.out]; rfl
            have hnz : (S ++ T).size = S.size + T.size := ByteArray.size_append
            clear hst
            go_wp2_with fail
            go_roundw
            case rel => exact ⟨j + 1, S ++ T, by go_num, by omega, rfl, by omega, hnx, trivial⟩
            case measure => simp [intOf]; omega
          · obtain rfl : j = ofn := by omega
            have hdr := Lib.hid (fun W (hb : Below wr.heap.size wr W) => doc_drop (HD2.out.pv.below hb) (by omega) m o i0)
            have c0 : wr.cell? ⟨g + 2, 0, none⟩ = some (.int .i64 0) := HD2.out.br.cell 0
            have hdr2 := Lib.hid (hdr.out wr (Below.refl _ _))
            rw [hSJ.out]
            generalize JT j = R at *
            go_wp2_with fail
            refine hdr2.out.mono ?_
            rintro e w5 ⟨v', rfl, hpv, hb5, hnew⟩
            have HD5 := Lib.hid (HD2.out.below hb5)
            have HPV := Lib.hid hpv
            have HNW : Hid (∀ b, (v' : Value).ownBlock = some b → g + 2 < b) := fun b hb => by have := hnew b hb; have := HD2.out.br.lt; omega
            clear hnew
            obtain ⟨a5, n5, c5, hv5⟩ : ∃ a n c, v' = .slice a n c := by obtain ⟨a, c, h⟩ := hpv.ps.slice; exact ⟨a, _, c, h⟩
            subst hv5
            clear hb5 hpv b0 b1 b2 p0 p1 p2 p3 c0
            go_upto_region 22 with fail
            have HW6 : Hid (∀ W, w5.alloc (.cells #[.int .i64 m, .int .i64 o, .slice a5 n5 c5] 84) = W → Below g w W ∧ Blk W (g + 2) #[.int .i64 0, .int .i64 0, .slice none 0 0] 84 ∧ Blk W w5.heap.size #[.int .i64 m, .int .i64 o, .slice a5 n5 c5] 84 ∧ PV W (.slice a5 n5 c5) (dropL L i0) ∧ g + 2 < w5.heap.size) := fun W hW => by
              subst hW
              exact ⟨HD5.out.bel.alloc (by have := HD5.out.bj.lt; omega) _, HD5.out.br.alloc _, Blk.new _ _ _, HPV.out.below ((Below.refl _ _).alloc (Nat.le_refl _) _), HD5.out.br.lt⟩
            generalize w5.alloc (.cells #[.int .i64 m, .int .i64 o, .slice a5 n5 c5] 84) = w6 at *
            have H6 := Lib.hid (HW6.out _ rfl)
            clear HW6
            generalize w5.heap.size = b5 at *
            have b0 : w6.cell? ⟨b5, 0, none⟩ = some (.int .i64 m) := H6.out.2.2.1.cell 0
            have b1 : w6.cell? ⟨b5, 1, none⟩ = some (.int .i64 o) := H6.out.2.2.1.cell 1
            have b2 : w6.cell? ⟨b5, 2, none⟩ = some (.slice a5 n5 c5) := H6.out.2.2.1.cell 2
            have c0 : w6.cell? ⟨g + 2, 0, none⟩ = some (.int .i64 0) := H6.out.2.1.cell 0
            have c1 : w6.cell? ⟨g + 2, 1, none⟩ = some (.int .i64 0) := H6.out.2.1.cell 1
            have c2 : w6.cell? ⟨g + 2, 2, none⟩ = some (.slice none 0 0) := H6.out.2.1.cell 2
            have f2 := fun i => H6.out.2.1.free i
            go_wp2_with fail
            obtain ⟨e1, e2, e3⟩ := set3 H6.out.2.1 H6.out.1 (by omega) (.int .i64 m) (.int .i64 o) (.slice a5 n5 c5)
            have hpv7 : PV (((w6.setCell ⟨g + 2, 0, none⟩ (.int .i64 m)).setCell ⟨g + 2, 1, none⟩ (.int .i64 o)).setCell ⟨g + 2, 2, none⟩ (.slice a5 n5 c5)) (.slice a5 n5 c5) (dropL L i0) := by
              refine H6.out.2.2.2.1.other fun b hb => e3 b ?_
              have := HNW.out b hb
              omega
            generalize ((w6.setCell ⟨g + 2, 0, none⟩ (.int .i64 m)).setCell ⟨g + 2, 1, none⟩ (.int .i64 o)).setCell ⟨g + 2, 2, none⟩ (.slice a5 n5 c5) = WF at *
            have d0 := e1.cell 0
            have d1 := e1.cell 1
            have d2 := e1.cell 2
            simp at d0 d1 d2
            refine bodyPost_ret (v := .tuple #[.agg #[.int .i64 m, .int .i64 o, .slice a5 n5 c5], .string R, .bool true, .int .i64 0]) (by simp [results, Try.results42, go_sem, d0, d1, d2]) rfl ?_
            exact HF2.out _ _ hpv7 e2 (fun b hb => by have := HNW.out b hb; omega)
      · have hbi : (((partsOf L (i0 : Int)).length : Int) + 1 == (ofn : Int)) = false := by simp; omega
        have hwh3 : ((partsOf L (i0 : Int)).length : Int) + 1 ≠ (ofn : Int) := by omega
        have HMY2 := Lib.hid (HMY.out hok.out hwh3)
        have HOV2 := Lib.hid (HOV.out hok.out hwh3)
        have HMO2 := Lib.hid (HMO.out hok.out hwh3)
        have HEM : Hid (partsOf L (i0 : Int) = [] ↔ (partsOf L (i0 : Int)).length = 0) := List.length_eq_zero_iff.symm
        have HIL : Hid (((sortI (idsL L)).length = (idsL L).length)) := by unfold Hid sortI; exact List.length_mergeSort _
        have hil : (idsL L).length ≤ 1000 := by have := sortI_len_le L; rw [HIL.out] at this; omega
        have CI : Hid (∀ W, Below wt.heap.size wt W → Calls Try.prog 43 #[.agg #[.int .i64 m, .int .i64 o, .slice ao k cap]] W (DIdsPost L W)) := fun W hb => by
          exact doc_ids (HD2.out.pv.below hb) (by omega) (fun p hp => ⟨(HAL.out p hp).1.1, (HAL.out p hp).1.2⟩) m o
        have CU : Hid (∀ W, Below wt.heap.size wt W → Calls Try.prog 44 #[.agg #[.int .i64 m, .int .i64 o, .slice ao k cap]] W fun en w' => en = .returned (.int .i64 (usedL L : Nat)) ∧ Below W.heap.size W w') := fun W hb => by
          exact doc_used (HD2.out.pv.below hb) (by omega) hu m o
        clear HS HWH HMY HOV HMO HM hok HAL hwh hwh3
        generalize (partsOf L (i0 : Int)).length = M at *
        have c0 : wt.cell? ⟨g + 2, 0, none⟩ = some (.int .i64 0) := HD2.out.br.cell 0
        have c1 : wt.cell? ⟨g + 2, 1, none⟩ = some (.int .i64 0) := HD2.out.br.cell 1
        have c2 : wt.cell? ⟨g + 2, 2, none⟩ = some (.slice none 0 0) := HD2.out.br.cell 2
        have hgt := HD2.out.br.lt
        by_cases hz : M = 0
        · have hzb : ((M : Int) == 0) = true := by simp; exact hz
          have HE0 : Hid (partsOf L (i0 : Int) = []) := HEM.out.2 hz
          have hS0 := And.intro b0 (And.intro b1 b2)
          clear hz HEM
          go_wp2_with fail
          go_region_held3 (fun w' => w'.cell? ⟨g, 0, none⟩ = some (.int .i64 m) ∧ w'.cell? ⟨g, 1, none⟩ = some (.int .i64 o) ∧ w'.cell? ⟨g, 2, none⟩ = some (.slice ao k cap))
            (first | assumption | exact hS0 | exact hS4)
            ((go_at_call 43; refine (CI.out _ (Below.refl _ _).drew).mono ?_; rintro e w4 ⟨v4, rfl, ⟨a4, cap4, rfl, _⟩, hb4⟩; have hS4 := And.intro ((hb4.cell (p := ⟨g, 0, none⟩) (show g < wt.heap.size by omega)).trans b0) (And.intro ((hb4.cell (p := ⟨g, 1, none⟩) (show g < wt.heap.size by omega)).trans b1) ((hb4.cell (p := ⟨g, 2, none⟩) (show g < wt.heap.size by omega)).trans b2))))
          have hlv := HIL.out
          rw [hlv]
          have HB4 : Hid (Below wt.heap.size wt w4) := (Below.refl _ _).drew.trans hb4
          clear hb4 hlv hS0
          have HD4 := Lib.hid (HD2.out.below HB4.out)
          clear b0 b1 b2 p0 p1 p2 p3 c0 c1 c2
          by_cases hop : o ≤ ((idsL L).length : Int)
          · have HF4 := DAddPost.err H0.out (HMY2.out HE0.out hop)
            clear HMY2 HOV2 HMO2 HIL
            have b0 : w4.cell? ⟨g, 0, none⟩ = some (.int .i64 m) := HD4.out.bj.cell 0
            have b1 : w4.cell? ⟨g, 1, none⟩ = some (.int .i64 o) := HD4.out.bj.cell 1
            have b2 : w4.cell? ⟨g, 2, none⟩ = some (.slice ao k cap) := HD4.out.bj.cell 2
            have p0 : w4.cell? ⟨g + 1, 0, none⟩ = some (.int .i64 i0) := HD4.out.bp.cell 0
            have p1 : w4.cell? ⟨g + 1, 1, none⟩ = some (.int .i64 n0) := HD4.out.bp.cell 1
            have p2 : w4.cell? ⟨g + 1, 2, none⟩ = some (.int .i64 ofn) := HD4.out.bp.cell 2
            have p3 : w4.cell? ⟨g + 1, 3, none⟩ = some (.string pT) := HD4.out.bp.cell 3
            have c0 : w4.cell? ⟨g + 2, 0, none⟩ = some (.int .i64 0) := HD4.out.br.cell 0
            have c1 : w4.cell? ⟨g + 2, 1, none⟩ = some (.int .i64 0) := HD4.out.br.cell 1
            have c2 : w4.cell? ⟨g + 2, 2, none⟩ = some (.slice none 0 0) := HD4.out.br.cell 2
            have f2 := fun i => HD4.out.br.free i
            go_wp2_with fail
            obtain ⟨e1, e2, e3⟩ := set3 HD4.out.br HD4.out.bel (by omega) (.int .i64 m) (.int .i64 o) (.slice ao k cap)
            generalize ((w4.setCell ⟨g + 2, 0, none⟩ (.int .i64 m)).setCell ⟨g + 2, 1, none⟩ (.int .i64 o)).setCell ⟨g + 2, 2, none⟩ (.slice ao k cap) = WF at *
            have d0 := e1.cell 0
            have d1 := e1.cell 1
            have d2 := e1.cell 2
            simp at d0 d1 d2
            refine bodyPost_ret (v := .tuple #[.agg #[.int .i64 m, .int .i64 o, .slice ao k cap], .string ⟨#[]⟩, .bool false, .int .i64 4]) (by simp [results, Try.results42, go_sem, d0, d1, d2]) rfl ?_
            exact HF4.out _ (hg ▸ e2)
          · have HIO : Hid (partsOf L (i0 : Int) = [] → ¬ o ≤ ((idsL L).length : Int)) := fun _ => hop
            clear HMY2
            have b0 : w4.cell? ⟨g, 0, none⟩ = some (.int .i64 m) := HD4.out.bj.cell 0
            have b1 : w4.cell? ⟨g, 1, none⟩ = some (.int .i64 o) := HD4.out.bj.cell 1
            have b2 : w4.cell? ⟨g, 2, none⟩ = some (.slice ao k cap) := HD4.out.bj.cell 2
            have p0 : w4.cell? ⟨g + 1, 0, none⟩ = some (.int .i64 i0) := HD4.out.bp.cell 0
            have p1 : w4.cell? ⟨g + 1, 1, none⟩ = some (.int .i64 n0) := HD4.out.bp.cell 1
            have p2 : w4.cell? ⟨g + 1, 2, none⟩ = some (.int .i64 ofn) := HD4.out.bp.cell 2
            have p3 : w4.cell? ⟨g + 1, 3, none⟩ = some (.string pT) := HD4.out.bp.cell 3
            have c0 : w4.cell? ⟨g + 2, 0, none⟩ = some (.int .i64 0) := HD4.out.br.cell 0
            have c1 : w4.cell? ⟨g + 2, 1, none⟩ = some (.int .i64 0) := HD4.out.br.cell 1
            have c2 : w4.cell? ⟨g + 2, 2, none⟩ = some (.slice none 0 0) := HD4.out.br.cell 2
            have f2 := fun i => HD4.out.br.free i
            have CU4 : Hid (∀ x : Fut w4, Calls Try.prog 44 #[.agg #[.int .i64 m, .int .i64 o, .slice ao k cap]] x.at_ fun en w' => en = .returned (.int .i64 (usedL L : Nat)) ∧ Below x.at_.heap.size x.at_ w') := fun x => CU.out _ (HB4.out.trans (x.is.mono HB4.out.size))
            have HT4 : Hid (∀ x : Fut w4, DAt g tb m o (.slice ao k cap) ⟨i0, n0, ofn, pT⟩ ofn (lastT L ⟨i0, n0, ofn, pT⟩ ofn n0) L w x.at_) := fun x => HD4.out.below x.is
            have x0 := fun x : Fut w4 => (HT4.out x).bj.cell 0
            have x1 := fun x : Fut w4 => (HT4.out x).bj.cell 1
            have x2 := fun x : Fut w4 => (HT4.out x).bj.cell 2
            have x3 := fun x : Fut w4 => (HT4.out x).bp.cell 3
            simp [Pt.cs] at x0 x1 x2 x3
            have hwr : IntKind.i64.wrap ((usedL L : Int) + (pT.size : Int)) = (usedL L : Int) + (pT.size : Int) := IntWalk.i64_in _ (by omega)
            by_cases huu : m - (usedL L : Int) < (pT.size : Int)
            · have HF5 := DAddPost.err H0.out (HOV2.out (fun h => by have := HIO.out h; omega) (by omega))
              have huu2 : decide (m < (usedL L : Int) + (pT.size : Int)) = true := by simp; omega
              clear HOV2 HMO2 huu CU CI HIL
              generalize usedL L = U at *
              go_wp2_with fail
              refine wp_region_after (by kernel_rfl) (by kernel_rfl) ?_
              repeat (go_big_quiet_step (exact Calls.after (CU4.out _)))
              refine wpQuiet_nil ?_
              intro x
              have HD5 := Lib.hid (HT4.out x)
              clear x0 x1 x2 x3 CU4 HT4 b0 b1 b2 p0 p1 p2 p3 c0 c1 c2 f2
              generalize x.at_ = w5 at *
              have b0 : w5.cell? ⟨g, 0, none⟩ = some (.int .i64 m) := HD5.out.bj.cell 0
              have b1 : w5.cell? ⟨g, 1, none⟩ = some (.int .i64 o) := HD5.out.bj.cell 1
              have b2 : w5.cell? ⟨g, 2, none⟩ = some (.slice ao k cap) := HD5.out.bj.cell 2
              have p0 : w5.cell? ⟨g + 1, 0, none⟩ = some (.int .i64 i0) := HD5.out.bp.cell 0
              have p1 : w5.cell? ⟨g + 1, 1, none⟩ = some (.int .i64 n0) := HD5.out.bp.cell 1
              have p2 : w5.cell? ⟨g + 1, 2, none⟩ = some (.int .i64 ofn) := HD5.out.bp.cell 2
              have p3 : w5.cell? ⟨g + 1, 3, none⟩ = some (.string pT) := HD5.out.bp.cell 3
              have c0 : w5.cell? ⟨g + 2, 0, none⟩ = some (.int .i64 0) := HD5.out.br.cell 0
              have c1 : w5.cell? ⟨g + 2, 1, none⟩ = some (.int .i64 0) := HD5.out.br.cell 1
              have c2 : w5.cell? ⟨g + 2, 2, none⟩ = some (.slice none 0 0) := HD5.out.br.cell 2
              have f2 := fun i => HD5.out.br.free i
              go_wp2_with fail
              obtain ⟨e1, e2, e3⟩ := set3 HD5.out.br HD5.out.bel (by omega) (.int .i64 m) (.int .i64 o) (.slice ao k cap)
              generalize ((w5.setCell ⟨g + 2, 0, none⟩ (.int .i64 m)).setCell ⟨g + 2, 1, none⟩ (.int .i64 o)).setCell ⟨g + 2, 2, none⟩ (.slice ao k cap) = WF at *
              have d0 := e1.cell 0
              have d1 := e1.cell 1
              have d2 := e1.cell 2
              simp at d0 d1 d2
              refine bodyPost_ret (v := .tuple #[.agg #[.int .i64 m, .int .i64 o, .slice ao k cap], .string ⟨#[]⟩, .bool false, .int .i64 5]) (by simp [results, Try.results42, go_sem, d0, d1, d2]) rfl ?_
              exact HF5.out _ (hg ▸ e2)
            · have HMO3 := Lib.hid (HMO2.out (fun h => by have := HIO.out h; omega) (by omega))
              have huu2 : decide (m < (usedL L : Int) + (pT.size : Int)) = false := by simp; omega
              clear HOV2 HMO2 huu CU CI HIL
              generalize usedL L = U at *
              go_wp2_with fail
              refine wp_region_after (by kernel_rfl) (by kernel_rfl) ?_
              repeat (go_big_quiet_step (exact Calls.after (CU4.out _)))
              refine wpQuiet_nil ?_
              intro x
              have HD5 := Lib.hid (HT4.out x)
              clear x0 x1 x2 x3 CU4 HT4 b0 b1 b2 p0 p1 p2 p3 c0 c1 c2 f2
              generalize x.at_ = w5 at *
              have b0 : w5.cell? ⟨g, 0, none⟩ = some (.int .i64 m) := HD5.out.bj.cell 0
              have b1 : w5.cell? ⟨g, 1, none⟩ = some (.int .i64 o) := HD5.out.bj.cell 1
              have b2 : w5.cell? ⟨g, 2, none⟩ = some (.slice ao k cap) := HD5.out.bj.cell 2
              have p0 : w5.cell? ⟨g + 1, 0, none⟩ = some (.int .i64 i0) := HD5.out.bp.cell 0
              have p1 : w5.cell? ⟨g + 1, 1, none⟩ = some (.int .i64 n0) := HD5.out.bp.cell 1
              have p2 : w5.cell? ⟨g + 1, 2, none⟩ = some (.int .i64 ofn) := HD5.out.bp.cell 2
              have p3 : w5.cell? ⟨g + 1, 3, none⟩ = some (.string pT) := HD5.out.bp.cell 3
              have c0 : w5.cell? ⟨g + 2, 0, none⟩ = some (.int .i64 0) := HD5.out.br.cell 0
              have c1 : w5.cell? ⟨g + 2, 1, none⟩ = some (.int .i64 0) := HD5.out.br.cell 1
              have c2 : w5.cell? ⟨g + 2, 2, none⟩ = some (.slice none 0 0) := HD5.out.br.cell 2
              have f2 := fun i => HD5.out.br.free i
              go_wp2_with fail
              refine add27 (m := m) (o := o) (p := ⟨i0, n0, ofn, pT⟩) (L := L) (vL := .slice ao k cap) rfl rfl rfl HD5.out.bj HD5.out.bp HD5.out.pv (by omega) ?_
              intro x0 x1 x2 x3 x4 x5 v x7 W hb hown
              simp only [List.setIfInBounds_toArray, List.set_cons_zero, List.set_cons_succ]
              have hw5 : g + 2 < w5.heap.size := HD5.out.br.lt
              have hgw5 : w.heap.size ≤ w5.heap.size := by have := HD5.out.bel.size; exact this
              have k0 := (Below.blk hb HD5.out.bj (by omega)).set 2 v
              simp only [List.setIfInBounds_toArray, List.set_cons_zero, List.set_cons_succ] at k0
              have K0 := Lib.hid k0
              have K2 := Lib.hid ((Below.blk hb HD5.out.br hw5).setOther (a := ⟨g, 2, none⟩) (by simp) v)
              have KB : Hid (Below g w (W.setCell ⟨g, 2, none⟩ v)) := (HD5.out.bel.trans (hb.mono (by omega))).setCell (by simp) v
              have KO : Hid (OwnP (W.setCell ⟨g, 2, none⟩ v) w5.heap.size 31 v (L ++ [⟨i0, n0, ofn, pT⟩])) := hown.kept fun b hb2 => Below.heap_setCell _ _ _ _ (by have := (hown.block b hb2).1; simp; omega)
              clear k0 hb hown HD5 b0 b1 b2 p0 p1 p2 p3 c0 c1 c2 f2
              generalize W.setCell ⟨g, 2, none⟩ v = w6 at *
              clear W
              obtain ⟨vo, vc, hvs⟩ := KO.out.ps.slice
              generalize hNN : (L ++ [(⟨i0, n0, ofn, pT⟩ : Pt)]).length = NN at *
              have HNN := Lib.hid hNN
              clear hNN
              subst hvs
              have b0 : w6.cell? ⟨g, 0, none⟩ = some (.int .i64 m) := K0.out.cell 0
              have b1 : w6.cell? ⟨g, 1, none⟩ = some (.int .i64 o) := K0.out.cell 1
              have b2 : w6.cell? ⟨g, 2, none⟩ = some (.slice vo NN vc) := K0.out.cell 2
              have c0 : w6.cell? ⟨g + 2, 0, none⟩ = some (.int .i64 0) := K2.out.cell 0
              have c1 : w6.cell? ⟨g + 2, 1, none⟩ = some (.int .i64 0) := K2.out.cell 1
              have c2 : w6.cell? ⟨g + 2, 2, none⟩ = some (.slice none 0 0) := K2.out.cell 2
              have f2 := fun i => K2.out.free i
              go_wp2_with fail
              obtain ⟨e1, e2, e3⟩ := set3 K2.out KB.out (by omega) (.int .i64 m) (.int .i64 o) (.slice vo NN vc)
              have e4 := KO.out.kept fun b hb2 => e3 b (by have := (KO.out.block b hb2).1; omega)
              generalize ((w6.setCell ⟨g + 2, 0, none⟩ (.int .i64 m)).setCell ⟨g + 2, 1, none⟩ (.int .i64 o)).setCell ⟨g + 2, 2, none⟩ (.slice vo NN vc) = WF at *
              have d0 := e1.cell 0
              have d1 := e1.cell 1
              have d2 := e1.cell 2
              simp at d0 d1 d2
              refine bodyPost_ret (v := .tuple #[.agg #[.int .i64 m, .int .i64 o, .slice vo NN vc], .string ⟨#[]⟩, .bool false, .int .i64 0]) (by simp [results, Try.results42, go_sem, d0, d1, d2]) rfl ?_
              refine ⟨.slice vo NN vc, ?_, ?_, hg ▸ e2, fun b hb => .inr ?_⟩
              · rw [HMO3.out]; rfl
              · rw [HMO3.out]; exact e4.pv
              · have := (KO.out.block b hb).1; omega
        · have hzb : ((M : Int) == 0) = false := by simp; exact hz
          have HIO : Hid (partsOf L (i0 : Int) = [] → ¬ o ≤ ((idsL L).length : Int)) := fun h => absurd (HEM.out.1 h) hz
          clear hz HEM HMY2
          go_wp2_with fail
          go_quiet (fail)
          obtain ⟨w4, hw4⟩ : ∃ w4, wt.drewN nq = w4 := ⟨_, rfl⟩
          have HB4 : Hid (Below wt.heap.size wt w4) := by subst hw4; exact ⟨rfl, rfl, rfl, Nat.le_refl _, fun _ _ => rfl⟩
          rw [hw4]
          clear hw4
          have HD4 := Lib.hid (HD2.out.below HB4.out)
          clear b0 b1 b2 p0 p1 p2 p3 c0 c1 c2
          have b0 : w4.cell? ⟨g, 0, none⟩ = some (.int .i64 m) := HD4.out.bj.cell 0
          have b1 : w4.cell? ⟨g, 1, none⟩ = some (.int .i64 o) := HD4.out.bj.cell 1
          have b2 : w4.cell? ⟨g, 2, none⟩ = some (.slice ao k cap) := HD4.out.bj.cell 2
          have p0 : w4.cell? ⟨g + 1, 0, none⟩ = some (.int .i64 i0) := HD4.out.bp.cell 0
          have p1 : w4.cell? ⟨g + 1, 1, none⟩ = some (.int .i64 n0) := HD4.out.bp.cell 1
          have p2 : w4.cell? ⟨g + 1, 2, none⟩ = some (.int .i64 ofn) := HD4.out.bp.cell 2
          have p3 : w4.cell? ⟨g + 1, 3, none⟩ = some (.string pT) := HD4.out.bp.cell 3
          have c0 : w4.cell? ⟨g + 2, 0, none⟩ = some (.int .i64 0) := HD4.out.br.cell 0
          have c1 : w4.cell? ⟨g + 2, 1, none⟩ = some (.int .i64 0) := HD4.out.br.cell 1
          have c2 : w4.cell? ⟨g + 2, 2, none⟩ = some (.slice none 0 0) := HD4.out.br.cell 2
          have f2 := fun i => HD4.out.br.free i
          have CU4 : Hid (∀ x : Fut w4, Calls Try.prog 44 #[.agg #[.int .i64 m, .int .i64 o, .slice ao k cap]] x.at_ fun en w' => en = .returned (.int .i64 (usedL L : Nat)) ∧ Below x.at_.heap.size x.at_ w') := fun x => CU.out _ (HB4.out.trans (x.is.mono HB4.out.size))
          have HT4 : Hid (∀ x : Fut w4, DAt g tb m o (.slice ao k cap) ⟨i0, n0, ofn, pT⟩ ofn (lastT L ⟨i0, n0, ofn, pT⟩ ofn n0) L w x.at_) := fun x => HD4.out.below x.is
          have x0 := fun x : Fut w4 => (HT4.out x).bj.cell 0
          have x1 := fun x : Fut w4 => (HT4.out x).bj.cell 1
          have x2 := fun x : Fut w4 => (HT4.out x).bj.cell 2
          have x3 := fun x : Fut w4 => (HT4.out x).bp.cell 3
          simp [Pt.cs] at x0 x1 x2 x3
          have hwr : IntKind.i64.wrap ((usedL L : Int) + (pT.size : Int)) = (usedL L : Int) + (pT.size : Int) := IntWalk.i64_in _ (by omega)
          by_cases huu : m - (usedL L : Int) < (pT.size : Int)
          · have HF5 := DAddPost.err H0.out (HOV2.out (fun h => by have := HIO.out h; omega) (by omega))
            have huu2 : decide (m < (usedL L : Int) + (pT.size : Int)) = true := by simp; omega
            clear HOV2 HMO2 huu CU CI HIL
            generalize usedL L = U at *
            go_wp2_with fail
            refine wp_region_after (by kernel_rfl) (by kernel_rfl) ?_
            repeat (go_big_quiet_step (exact Calls.after (CU4.out _)))
            refine wpQuiet_nil ?_
            intro x
            have HD5 := Lib.hid (HT4.out x)
            clear x0 x1 x2 x3 CU4 HT4 b0 b1 b2 p0 p1 p2 p3 c0 c1 c2 f2
            generalize x.at_ = w5 at *
            have b0 : w5.cell? ⟨g, 0, none⟩ = some (.int .i64 m) := HD5.out.bj.cell 0
            have b1 : w5.cell? ⟨g, 1, none⟩ = some (.int .i64 o) := HD5.out.bj.cell 1
            have b2 : w5.cell? ⟨g, 2, none⟩ = some (.slice ao k cap) := HD5.out.bj.cell 2
            have p0 : w5.cell? ⟨g + 1, 0, none⟩ = some (.int .i64 i0) := HD5.out.bp.cell 0
            have p1 : w5.cell? ⟨g + 1, 1, none⟩ = some (.int .i64 n0) := HD5.out.bp.cell 1
            have p2 : w5.cell? ⟨g + 1, 2, none⟩ = some (.int .i64 ofn) := HD5.out.bp.cell 2
            have p3 : w5.cell? ⟨g + 1, 3, none⟩ = some (.string pT) := HD5.out.bp.cell 3
            have c0 : w5.cell? ⟨g + 2, 0, none⟩ = some (.int .i64 0) := HD5.out.br.cell 0
            have c1 : w5.cell? ⟨g + 2, 1, none⟩ = some (.int .i64 0) := HD5.out.br.cell 1
            have c2 : w5.cell? ⟨g + 2, 2, none⟩ = some (.slice none 0 0) := HD5.out.br.cell 2
            have f2 := fun i => HD5.out.br.free i
            go_wp2_with fail
            obtain ⟨e1, e2, e3⟩ := set3 HD5.out.br HD5.out.bel (by omega) (.int .i64 m) (.int .i64 o) (.slice ao k cap)
            generalize ((w5.setCell ⟨g + 2, 0, none⟩ (.int .i64 m)).setCell ⟨g + 2, 1, none⟩ (.int .i64 o)).setCell ⟨g + 2, 2, none⟩ (.slice ao k cap) = WF at *
            have d0 := e1.cell 0
            have d1 := e1.cell 1
            have d2 := e1.cell 2
            simp at d0 d1 d2
            refine bodyPost_ret (v := .tuple #[.agg #[.int .i64 m, .int .i64 o, .slice ao k cap], .string ⟨#[]⟩, .bool false, .int .i64 5]) (by simp [results, Try.results42, go_sem, d0, d1, d2]) rfl ?_
            exact HF5.out _ (hg ▸ e2)
          · have HMO3 := Lib.hid (HMO2.out (fun h => by have := HIO.out h; omega) (by omega))
            have huu2 : decide (m < (usedL L : Int) + (pT.size : Int)) = false := by simp; omega
            clear HOV2 HMO2 huu CU CI HIL
            generalize usedL L = U at *
            go_wp2_with fail
            refine wp_region_after (by kernel_rfl) (by kernel_rfl) ?_
            repeat (go_big_quiet_step (exact Calls.after (CU4.out _)))
            refine wpQuiet_nil ?_
            intro x
            have HD5 := Lib.hid (HT4.out x)
            clear x0 x1 x2 x3 CU4 HT4 b0 b1 b2 p0 p1 p2 p3 c0 c1 c2 f2
            generalize x.at_ = w5 at *
            have b0 : w5.cell? ⟨g, 0, none⟩ = some (.int .i64 m) := HD5.out.bj.cell 0
            have b1 : w5.cell? ⟨g, 1, none⟩ = some (.int .i64 o) := HD5.out.bj.cell 1
            have b2 : w5.cell? ⟨g, 2, none⟩ = some (.slice ao k cap) := HD5.out.bj.cell 2
            have p0 : w5.cell? ⟨g + 1, 0, none⟩ = some (.int .i64 i0) := HD5.out.bp.cell 0
            have p1 : w5.cell? ⟨g + 1, 1, none⟩ = some (.int .i64 n0) := HD5.out.bp.cell 1
            have p2 : w5.cell? ⟨g + 1, 2, none⟩ = some (.int .i64 ofn) := HD5.out.bp.cell 2
            have p3 : w5.cell? ⟨g + 1, 3, none⟩ = some (.string pT) := HD5.out.bp.cell 3
            have c0 : w5.cell? ⟨g + 2, 0, none⟩ = some (.int .i64 0) := HD5.out.br.cell 0
            have c1 : w5.cell? ⟨g + 2, 1, none⟩ = some (.int .i64 0) := HD5.out.br.cell 1
            have c2 : w5.cell? ⟨g + 2, 2, none⟩ = some (.slice none 0 0) := HD5.out.br.cell 2
            have f2 := fun i => HD5.out.br.free i
            go_wp2_with fail
            refine add27 (m := m) (o := o) (p := ⟨i0, n0, ofn, pT⟩) (L := L) (vL := .slice ao k cap) rfl rfl rfl HD5.out.bj HD5.out.bp HD5.out.pv (by omega) ?_
            intro x0 x1 x2 x3 x4 x5 v x7 W hb hown
            simp only [List.setIfInBounds_toArray, List.set_cons_zero, List.set_cons_succ]
            have hw5 : g + 2 < w5.heap.size := HD5.out.br.lt
            have hgw5 : w.heap.size ≤ w5.heap.size := by have := HD5.out.bel.size; exact this
            have k0 := (Below.blk hb HD5.out.bj (by omega)).set 2 v
            simp only [List.setIfInBounds_toArray, List.set_cons_zero, List.set_cons_succ] at k0
            have K0 := Lib.hid k0
            have K2 := Lib.hid ((Below.blk hb HD5.out.br hw5).setOther (a := ⟨g, 2, none⟩) (by simp) v)
            have KB : Hid (Below g w (W.setCell ⟨g, 2, none⟩ v)) := (HD5.out.bel.trans (hb.mono (by omega))).setCell (by simp) v
            have KO : Hid (OwnP (W.setCell ⟨g, 2, none⟩ v) w5.heap.size 31 v (L ++ [⟨i0, n0, ofn, pT⟩])) := hown.kept fun b hb2 => Below.heap_setCell _ _ _ _ (by have := (hown.block b hb2).1; simp; omega)
            clear k0 hb hown HD5 b0 b1 b2 p0 p1 p2 p3 c0 c1 c2 f2
            generalize W.setCell ⟨g, 2, none⟩ v = w6 at *
            clear W
            obtain ⟨vo, vc, hvs⟩ := KO.out.ps.slice
            generalize hNN : (L ++ [(⟨i0, n0, ofn, pT⟩ : Pt)]).length = NN at *
            have HNN := Lib.hid hNN
            clear hNN
            subst hvs
            have b0 : w6.cell? ⟨g, 0, none⟩ = some (.int .i64 m) := K0.out.cell 0
            have b1 : w6.cell? ⟨g, 1, none⟩ = some (.int .i64 o) := K0.out.cell 1
            have b2 : w6.cell? ⟨g, 2, none⟩ = some (.slice vo NN vc) := K0.out.cell 2
            have c0 : w6.cell? ⟨g + 2, 0, none⟩ = some (.int .i64 0) := K2.out.cell 0
            have c1 : w6.cell? ⟨g + 2, 1, none⟩ = some (.int .i64 0) := K2.out.cell 1
            have c2 : w6.cell? ⟨g + 2, 2, none⟩ = some (.slice none 0 0) := K2.out.cell 2
            have f2 := fun i => K2.out.free i
            go_wp2_with fail
            obtain ⟨e1, e2, e3⟩ := set3 K2.out KB.out (by omega) (.int .i64 m) (.int .i64 o) (.slice vo NN vc)
            have e4 := KO.out.kept fun b hb2 => e3 b (by have := (KO.out.block b hb2).1; omega)
            generalize ((w6.setCell ⟨g + 2, 0, none⟩ (.int .i64 m)).setCell ⟨g + 2, 1, none⟩ (.int .i64 o)).setCell ⟨g + 2, 2, none⟩ (.slice vo NN vc) = WF at *
            have d0 := e1.cell 0
            have d1 := e1.cell 1
            have d2 := e1.cell 2
            simp at d0 d1 d2
            refine bodyPost_ret (v := .tuple #[.agg #[.int .i64 m, .int .i64 o, .slice vo NN vc], .string ⟨#[]⟩, .bool false, .int .i64 0]) (by simp [results, Try.results42, go_sem, d0, d1, d2]) rfl ?_
            refine ⟨.slice vo NN vc, ?_, ?_, hg ▸ e2, fun b hb => .inr ?_⟩
            · rw [HMO3.out]; rfl
            · rw [HMO3.out]; exact e4.pv
            · have := (KO.out.block b hb).1; omega
end Go.Proofs.Ytemfecdpjegocaa
