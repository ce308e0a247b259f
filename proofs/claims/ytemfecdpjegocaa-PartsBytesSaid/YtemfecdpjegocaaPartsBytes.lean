/- The walk of PartsBytes. -/
import Derived.Test.YtemfecdpjegocaaJLaws
import Derived.Test.YtemfecdpjegocaaPartRefGet
namespace Go.Proofs.Ytemfecdpjegocaa
open Go.RowKit Go.Maps
set_option linter.unusedVariables false
set_option linter.unusedSimpArgs false

theorem putP_size (p : Pt) (hm : mayP p) : (putP p).size ≤ 30 + p.text.size := by
  obtain ⟨⟨hi0, hi1⟩, ⟨ho0, ho1⟩, ⟨hn0, hn1⟩, _, _⟩ := id hm
  have h1 := lebPut_le 10 p.id.toNat (Nat.lt_of_le_of_lt (by omega : p.id.toNat ≤ 2147483647) (by decide))
  have h2 := lebPut_le 10 p.n.toNat (Nat.lt_of_le_of_lt (by omega : p.n.toNat ≤ 2147483647) (by decide))
  have h3 := lebPut_le 10 p.of_.toNat (Nat.lt_of_le_of_lt (by omega : p.of_.toNat ≤ 2147483647) (by decide))
  have e : (putP p).size = (putP p).data.toList.length := Array.length_toList.symm
  have e2 : p.text.data.toList.length = p.text.size := Array.length_toList
  rw [e, putP_data]
  simp only [List.length_append, e2]
  omega

set_option maxRecDepth 100000 in
theorem parts_bytes_far (p : Pt) (s : ByteArray) (w : World) (hwf : p.wf) (hs : s.size ≤ maxLen) (h : 1000 < p.text.size ∨ 1000 < s.size) :
    Calls Try.prog 7 #[.agg p.cs, .string s] w fun e w' => e = .returned (.bool true) ∧ Below w.heap.size w w' := by
  obtain ⟨i, n, o, T⟩ := p
  have hT := hwf.2.2.2
  simp only at hT h
  unfold maxLen at hT hs
  simp only [Pt.cs]
  obtain ⟨g, hg⟩ : ∃ g, w.heap.size = g := ⟨_, rfl⟩
  have H1 : Hid (Below g w (w.alloc (.cells #[.int .i64 i, .int .i64 n, .int .i64 o, .string T] 31)) ∧ Blk (w.alloc (.cells #[.int .i64 i, .int .i64 n, .int .i64 o, .string T] 31)) g #[.int .i64 i, .int .i64 n, .int .i64 o, .string T] 31) := ⟨(Below.refl _ _).alloc (by omega) _, hg ▸ Blk.new w _ _⟩
  have hd : decide (1000 < (T.size : Int)) = true ∨ (decide (1000 < (T.size : Int)) = false ∧ decide (1000 < (s.size : Int)) = true) := by
    by_cases c : 1000 < T.size
    · exact .inl (by simp; omega)
    · exact .inr ⟨by simp; omega, by simp; omega⟩
  clear h hwf
  rcases hd with d1 | ⟨d1, d2⟩
  all_goals
    go_enter Try.func7, Try.ntmps7
    go_wp2_with fail
    refine (parts_alive _).mono ?_
    rintro e w1 ⟨rfl, hb1⟩
    have H2 : Hid (Below g w w1) := H1.out.1.trans (hb1.mono (Nat.le_of_lt H1.out.2.lt))
    have c3 : w1.cell? ⟨g, 3, none⟩ = some (.string T) := (Below.blk hb1 H1.out.2 H1.out.2.lt).cell 3
    clear hb1 H1
    go_wp2_with fail
    go_returns
    exact ⟨rfl, hg ▸ H2.out⟩


theorem mayP_wf {p : Pt} (h : mayP p) : p.wf := by
  obtain ⟨⟨hi0, hi1⟩, ⟨ho0, ho1⟩, ⟨hn0, hn1⟩, hT, _⟩ := h
  have I : ∀ x : Int, 0 ≤ x → x ≤ 2147483647 → (Lit.int .i64 x).wf = true := fun x h0 h1 => by simp [Lit.wf, IntKind.min, IntKind.max, IntKind.signed, IntKind.bits]; omega
  exact ⟨I _ hi0 hi1, I _ (by omega) (by omega), I _ (by omega) (by omega), by unfold maxLen; omega⟩

set_option maxRecDepth 100000 in
set_option maxHeartbeats 4000000 in
theorem parts_bytes_near (p : Pt) (s : ByteArray) (w : World) (hwf : p.wf) (hm : mayP p) (h1 : p.text.size ≤ 1000) (h2 : s.size ≤ 1000) :
    Calls Try.prog 7 #[.agg p.cs, .string s] w fun e w' => e = .returned (.bool true) ∧ Below w.heap.size w w' := by
  have CO := Lib.hid (fun w => law_of p w)
  have CP := Lib.hid (fun w => parts_put p w hwf hm)
  have CM := Lib.hid (fun w => ref_may p w hwf)
  have CG := Lib.hid (fun w => parts_get (putP p) w (by have := putP_size p hm; omega))
  have CR := Lib.hid (fun w => ref30_put p w hm)
  have CL := Lib.hid (fun w => law_plain p w)
  have CGs := Lib.hid (fun w => parts_get s w (by omega))
  have CRs := Lib.hid (fun w => ref30_get s w (by omega))
  have hgp : getP (putP p).data.toList = (p, 0) := getP_put p hm
  have hmt : decide (mayP p) = true := decide_eq_true hm
  have hback := Lib.hid (fun q h => getP_back (s := s) (p := q) h)
  generalize putP p = B at *
  obtain ⟨G, hG⟩ : ∃ G, getP s.data.toList = G := ⟨_, rfl⟩
  have CQ := Lib.hid (fun w => law_plain G.1 w)
  have hqwf : Hid (mayP G.1 → G.1.wf) := fun h => mayP_wf h
  obtain ⟨i, n, o, T⟩ := p
  simp only at h1
  have d1 : decide (1000 < (T.size : Int)) = false := by simp; omega
  have d2 : decide (1000 < (s.size : Int)) = false := by simp; omega
  clear hwf hm
  unfold GetPost at CG CGs CRs
  rw [hgp] at CG
  rw [hG] at CGs CRs hback
  clear hG
  obtain ⟨⟨qi, qn, qo, qT⟩, ge⟩ := G
  simp only [Pt.cs] at CO CP CM CG CR CL CGs CRs CQ ⊢
  obtain ⟨g, hg⟩ : ∃ g, w.heap.size = g := ⟨_, rfl⟩
  have H1 : Hid (Below g w (w.alloc (.cells #[.int .i64 i, .int .i64 n, .int .i64 o, .string T] 31)) ∧ Blk (w.alloc (.cells #[.int .i64 i, .int .i64 n, .int .i64 o, .string T] 31)) g #[.int .i64 i, .int .i64 n, .int .i64 o, .string T] 31) := ⟨(Below.refl _ _).alloc (by omega) _, hg ▸ Blk.new w _ _⟩
  go_enter Try.func7, Try.ntmps7
  go_wp2_with fail
  refine (parts_alive _).mono ?_
  rintro e w1 ⟨rfl, hb1⟩
  have H2 : Hid (Below g w w1 ∧ Blk w1 g #[.int .i64 i, .int .i64 n, .int .i64 o, .string T] 31) := ⟨H1.out.1.trans (hb1.mono (Nat.le_of_lt H1.out.2.lt)), Below.blk hb1 H1.out.2 H1.out.2.lt⟩
  have a0 := H2.out.2.cell 0
  have a1 := H2.out.2.cell 1
  have a2 := H2.out.2.cell 2
  have a3 := H2.out.2.cell 3
  simp at a0 a1 a2 a3
  clear hb1 H1
  go_wp2_with fail
  refine (CO.out _).mono ?_
  rintro e w2 ⟨rfl, hb2⟩
  have H3 : Hid (Below g w w2 ∧ Blk w2 g #[.int .i64 i, .int .i64 n, .int .i64 o, .string T] 31) := ⟨H2.out.1.trans (hb2.mono (Nat.le_of_lt H2.out.2.lt)), Below.blk hb2 H2.out.2 H2.out.2.lt⟩
  clear hb2 H2 a0 a1 a2 a3
  go_wp2_with fail
  refine (CP.out _).mono ?_
  rintro e w3 ⟨rfl, hb3⟩
  have H4 : Hid (Below g w w3 ∧ Blk w3 g #[.int .i64 i, .int .i64 n, .int .i64 o, .string T] 31) := ⟨H3.out.1.trans (hb3.mono (Nat.le_of_lt H3.out.2.lt)), Below.blk hb3 H3.out.2 H3.out.2.lt⟩
  have a0 := H4.out.2.cell 0
  have a1 := H4.out.2.cell 1
  have a2 := H4.out.2.cell 2
  have a3 := H4.out.2.cell 3
  simp at a0 a1 a2 a3
  clear hb3 H3
  go_wp2_with fail
  refine (CM.out _).mono ?_
  rintro e w4 ⟨rfl, hb4⟩
  have H5 : Hid (Below g w w4 ∧ Blk w4 g #[.int .i64 i, .int .i64 n, .int .i64 o, .string T] 31) := ⟨H4.out.1.trans (hb4.mono (Nat.le_of_lt H4.out.2.lt)), Below.blk hb4 H4.out.2 H4.out.2.lt⟩
  clear hb4 H4 a0 a1 a2 a3
  rw [hmt]
  go_wp2_with fail
  refine (CG.out _).mono ?_
  rintro e w5 ⟨rfl, hb5⟩
  have H6 : Hid (Below g w w5 ∧ Blk w5 g #[.int .i64 i, .int .i64 n, .int .i64 o, .string T] 31) := ⟨H5.out.1.trans (hb5.mono (Nat.le_of_lt H5.out.2.lt)), Below.blk hb5 H5.out.2 H5.out.2.lt⟩
  clear hb5 H5
  obtain ⟨b, hb⟩ : ∃ b, w5.heap.size = b := ⟨_, rfl⟩
  go_upto_region 10 with fail
  have H7 : Hid (Below g w (w5.alloc (.cells #[.int .i64 i, .int .i64 n, .int .i64 o, .string T] 33)) ∧ Blk (w5.alloc (.cells #[.int .i64 i, .int .i64 n, .int .i64 o, .string T] 33)) g #[.int .i64 i, .int .i64 n, .int .i64 o, .string T] 31 ∧
      Blk (w5.alloc (.cells #[.int .i64 i, .int .i64 n, .int .i64 o, .string T] 33)) b #[.int .i64 i, .int .i64 n, .int .i64 o, .string T] 33) := ⟨H6.out.1.alloc (Nat.le_of_lt H6.out.2.lt) _, H6.out.2.alloc _, hb ▸ Blk.new w5 _ _⟩
  clear H6
  generalize w5.alloc (.cells #[.int .i64 i, .int .i64 n, .int .i64 o, .string T] 33) = w6 at *
  have x0 := fun x : Fut w6 => (Below.blk x.is H7.out.2.1 H7.out.2.1.lt).cell 0
  have x1 := fun x : Fut w6 => (Below.blk x.is H7.out.2.1 H7.out.2.1.lt).cell 1
  have x2 := fun x : Fut w6 => (Below.blk x.is H7.out.2.1 H7.out.2.1.lt).cell 2
  have x3 := fun x : Fut w6 => (Below.blk x.is H7.out.2.1 H7.out.2.1.lt).cell 3
  have y0 := fun x : Fut w6 => (Below.blk x.is H7.out.2.2 H7.out.2.2.lt).cell 0
  have y1 := fun x : Fut w6 => (Below.blk x.is H7.out.2.2 H7.out.2.2.lt).cell 1
  have y2 := fun x : Fut w6 => (Below.blk x.is H7.out.2.2 H7.out.2.2.lt).cell 2
  have y3 := fun x : Fut w6 => (Below.blk x.is H7.out.2.2 H7.out.2.2.lt).cell 3
  simp at x0 x1 x2 x3 y0 y1 y2 y3
  refine wp_region_after (by kernel_rfl) (by kernel_rfl) ?_
  repeat (go_big_quiet_step (exact Calls.after (CR.out _)))
  repeat (go_big_quiet_step (exact Calls.after (CL.out _)))
  refine wpQuiet_nil ?_
  intro x
  have H8 : Hid (Below g w x.at_) := H7.out.1.trans (x.is.mono (hg ▸ H7.out.1.size))
  clear x0 x1 x2 x3 y0 y1 y2 y3 H7
  go_wp2_with fail
  refine (CGs.out _).mono ?_
  rintro e w8 ⟨rfl, hb8⟩
  have H9 := Lib.hid (H8.out.trans (hb8.mono (hg ▸ H8.out.size)))
  clear hb8 H8
  obtain ⟨b1, hb1⟩ : ∃ b1, w8.heap.size = b1 := ⟨_, rfl⟩
  have H10 : Hid (Below g w (w8.alloc (.cells #[.int .i64 qi, .int .i64 qn, .int .i64 qo, .string qT] 33)) ∧ Blk (w8.alloc (.cells #[.int .i64 qi, .int .i64 qn, .int .i64 qo, .string qT] 33)) b1 #[.int .i64 qi, .int .i64 qn, .int .i64 qo, .string qT] 33) := ⟨H9.out.alloc (hg ▸ H9.out.size) _, hb1 ▸ Blk.new w8 _ _⟩
  go_wp2_with fail
  refine (CRs.out _).mono ?_
  rintro e w9 ⟨rfl, hb9⟩
  have H11 : Hid (Below g w w9 ∧ Blk w9 b1 #[.int .i64 qi, .int .i64 qn, .int .i64 qo, .string qT] 33) := ⟨H10.out.1.trans (hb9.mono (hg ▸ H10.out.1.size)), Below.blk hb9 H10.out.2 H10.out.2.lt⟩
  clear hb9 H9 H10
  obtain ⟨b2, hb2⟩ : ∃ b2, w9.heap.size = b2 := ⟨_, rfl⟩
  go_upto_region 14 with fail
  have H12 : Hid (Below g w (w9.alloc (.cells #[.int .i64 qi, .int .i64 qn, .int .i64 qo, .string qT] 31)) ∧ Blk (w9.alloc (.cells #[.int .i64 qi, .int .i64 qn, .int .i64 qo, .string qT] 31)) b1 #[.int .i64 qi, .int .i64 qn, .int .i64 qo, .string qT] 33 ∧
      Blk (w9.alloc (.cells #[.int .i64 qi, .int .i64 qn, .int .i64 qo, .string qT] 31)) b2 #[.int .i64 qi, .int .i64 qn, .int .i64 qo, .string qT] 31) := ⟨H11.out.1.alloc (hg ▸ H11.out.1.size) _, H11.out.2.alloc _, hb2 ▸ Blk.new w9 _ _⟩
  clear H11
  generalize w9.alloc (.cells #[.int .i64 qi, .int .i64 qn, .int .i64 qo, .string qT] 31) = w10 at *
  have z0 := fun x : Fut w10 => (Below.blk x.is H12.out.2.1 H12.out.2.1.lt).cell 0
  have z1 := fun x : Fut w10 => (Below.blk x.is H12.out.2.1 H12.out.2.1.lt).cell 1
  have z2 := fun x : Fut w10 => (Below.blk x.is H12.out.2.1 H12.out.2.1.lt).cell 2
  have z3 := fun x : Fut w10 => (Below.blk x.is H12.out.2.1 H12.out.2.1.lt).cell 3
  have u0 := fun x : Fut w10 => (Below.blk x.is H12.out.2.2 H12.out.2.2.lt).cell 0
  have u1 := fun x : Fut w10 => (Below.blk x.is H12.out.2.2 H12.out.2.2.lt).cell 1
  have u2 := fun x : Fut w10 => (Below.blk x.is H12.out.2.2 H12.out.2.2.lt).cell 2
  have u3 := fun x : Fut w10 => (Below.blk x.is H12.out.2.2 H12.out.2.2.lt).cell 3
  simp at z0 z1 z2 z3 u0 u1 u2 u3
  refine wp_region_after (by kernel_rfl) (by kernel_rfl) ?_
  repeat (go_big_quiet_step (exact Calls.after (CQ.out _)))
  refine wpQuiet_nil ?_
  intro x
  have hbx : Hid (Below g w x.at_ ∧ Blk x.at_ b1 #[.int .i64 qi, .int .i64 qn, .int .i64 qo, .string qT] 33) := ⟨H12.out.1.trans (x.is.mono (hg ▸ H12.out.1.size)), Below.blk x.is H12.out.2.1 H12.out.2.1.lt⟩
  clear z0 z1 z2 z3 u0 u1 u2 u3 H12
  by_cases hz : ge = 0
  · subst hz
    obtain ⟨hqm, hqs⟩ := hback.out _ rfl
    have t0 := hbx.out.2.cell 0
    have t1 := hbx.out.2.cell 1
    have t2 := hbx.out.2.cell 2
    have t3 := hbx.out.2.cell 3
    simp at t0 t1 t2 t3
    have CF := Lib.hid (fun w => parts_put ⟨qi, qn, qo, qT⟩ w (hqwf.out hqm) hqm)
    rw [hqs] at CF
    simp only [Pt.cs] at CF
    clear hqm hqs
    go_wp2_with fail
    refine (CF.out _).mono ?_
    rintro e w11 ⟨rfl, hb11⟩
    have H13 := Lib.hid (hbx.out.1.trans (hb11.mono (hg ▸ hbx.out.1.size)))
    clear hb11 hbx
    go_wp2_with fail
    go_returns
    exact ⟨rfl, hg ▸ H13.out⟩
  · have hne : ((ge : Int) != 0) = true := by simp; exact hz
    clear hz
    go_wp2_with fail
    go_returns
    exact ⟨rfl, hg ▸ hbx.out.1⟩

set_option maxRecDepth 100000 in
set_option maxHeartbeats 4000000 in
theorem parts_bytes_not (p : Pt) (s : ByteArray) (w : World) (hwf : p.wf) (hm : ¬ mayP p) (h1 : p.text.size ≤ 1000) (h2 : s.size ≤ 1000) :
    Calls Try.prog 7 #[.agg p.cs, .string s] w fun e w' => e = .returned (.bool true) ∧ Below w.heap.size w w' := by
  have CO := Lib.hid (fun w => law_of p w)
  have CP := Lib.hid (fun w => parts_put_bad p w hwf hm)
  have CM := Lib.hid (fun w => ref_may p w hwf)
  have CGs := Lib.hid (fun w => parts_get s w (by omega))
  have CRs := Lib.hid (fun w => ref30_get s w (by omega))
  have hmt : decide (mayP p) = false := decide_eq_false hm
  have hback := Lib.hid (fun q h => getP_back (s := s) (p := q) h)
  obtain ⟨G, hG⟩ : ∃ G, getP s.data.toList = G := ⟨_, rfl⟩
  have CQ := Lib.hid (fun w => law_plain G.1 w)
  have hqwf : Hid (mayP G.1 → G.1.wf) := fun h => mayP_wf h
  obtain ⟨i, n, o, T⟩ := p
  simp only at h1
  have d1 : decide (1000 < (T.size : Int)) = false := by simp; omega
  have d2 : decide (1000 < (s.size : Int)) = false := by simp; omega
  clear hwf hm
  unfold GetPost at CGs CRs
  rw [hG] at CGs CRs hback
  clear hG
  obtain ⟨⟨qi, qn, qo, qT⟩, ge⟩ := G
  simp only [Pt.cs] at CO CP CM CGs CRs CQ ⊢
  obtain ⟨g, hg⟩ : ∃ g, w.heap.size = g := ⟨_, rfl⟩
  have H1 : Hid (Below g w (w.alloc (.cells #[.int .i64 i, .int .i64 n, .int .i64 o, .string T] 31)) ∧ Blk (w.alloc (.cells #[.int .i64 i, .int .i64 n, .int .i64 o, .string T] 31)) g #[.int .i64 i, .int .i64 n, .int .i64 o, .string T] 31) := ⟨(Below.refl _ _).alloc (by omega) _, hg ▸ Blk.new w _ _⟩
  go_enter Try.func7, Try.ntmps7
  go_wp2_with fail
  refine (parts_alive _).mono ?_
  rintro e w1 ⟨rfl, hb1⟩
  have H2 : Hid (Below g w w1 ∧ Blk w1 g #[.int .i64 i, .int .i64 n, .int .i64 o, .string T] 31) := ⟨H1.out.1.trans (hb1.mono (Nat.le_of_lt H1.out.2.lt)), Below.blk hb1 H1.out.2 H1.out.2.lt⟩
  have a0 := H2.out.2.cell 0
  have a1 := H2.out.2.cell 1
  have a2 := H2.out.2.cell 2
  have a3 := H2.out.2.cell 3
  simp at a0 a1 a2 a3
  clear hb1 H1
  go_wp2_with fail
  refine (CO.out _).mono ?_
  rintro e w2 ⟨rfl, hb2⟩
  have H3 : Hid (Below g w w2 ∧ Blk w2 g #[.int .i64 i, .int .i64 n, .int .i64 o, .string T] 31) := ⟨H2.out.1.trans (hb2.mono (Nat.le_of_lt H2.out.2.lt)), Below.blk hb2 H2.out.2 H2.out.2.lt⟩
  clear hb2 H2 a0 a1 a2 a3
  go_wp2_with fail
  refine (CP.out _).mono ?_
  rintro e w3 ⟨rfl, hb3⟩
  have H4 : Hid (Below g w w3 ∧ Blk w3 g #[.int .i64 i, .int .i64 n, .int .i64 o, .string T] 31) := ⟨H3.out.1.trans (hb3.mono (Nat.le_of_lt H3.out.2.lt)), Below.blk hb3 H3.out.2 H3.out.2.lt⟩
  have a0 := H4.out.2.cell 0
  have a1 := H4.out.2.cell 1
  have a2 := H4.out.2.cell 2
  have a3 := H4.out.2.cell 3
  simp at a0 a1 a2 a3
  clear hb3 H3
  go_wp2_with fail
  refine (CM.out _).mono ?_
  rintro e w4 ⟨rfl, hb4⟩
  have H5 : Hid (Below g w w4 ∧ Blk w4 g #[.int .i64 i, .int .i64 n, .int .i64 o, .string T] 31) := ⟨H4.out.1.trans (hb4.mono (Nat.le_of_lt H4.out.2.lt)), Below.blk hb4 H4.out.2 H4.out.2.lt⟩
  clear hb4 H4 a0 a1 a2 a3
  rw [hmt]
  have H8 : Hid (Below g w w4) := H5.out.1
  clear H5
  go_wp2_with fail
  refine (CGs.out _).mono ?_
  rintro e w8 ⟨rfl, hb8⟩
  have H9 := Lib.hid (H8.out.trans (hb8.mono (hg ▸ H8.out.size)))
  clear hb8 H8
  obtain ⟨b1, hb1⟩ : ∃ b1, w8.heap.size = b1 := ⟨_, rfl⟩
  have H10 : Hid (Below g w (w8.alloc (.cells #[.int .i64 qi, .int .i64 qn, .int .i64 qo, .string qT] 33)) ∧ Blk (w8.alloc (.cells #[.int .i64 qi, .int .i64 qn, .int .i64 qo, .string qT] 33)) b1 #[.int .i64 qi, .int .i64 qn, .int .i64 qo, .string qT] 33) := ⟨H9.out.alloc (hg ▸ H9.out.size) _, hb1 ▸ Blk.new w8 _ _⟩
  go_wp2_with fail
  refine (CRs.out _).mono ?_
  rintro e w9 ⟨rfl, hb9⟩
  have H11 : Hid (Below g w w9 ∧ Blk w9 b1 #[.int .i64 qi, .int .i64 qn, .int .i64 qo, .string qT] 33) := ⟨H10.out.1.trans (hb9.mono (hg ▸ H10.out.1.size)), Below.blk hb9 H10.out.2 H10.out.2.lt⟩
  clear hb9 H9 H10
  obtain ⟨b2, hb2⟩ : ∃ b2, w9.heap.size = b2 := ⟨_, rfl⟩
  go_upto_region 14 with fail
  have H12 : Hid (Below g w (w9.alloc (.cells #[.int .i64 qi, .int .i64 qn, .int .i64 qo, .string qT] 31)) ∧ Blk (w9.alloc (.cells #[.int .i64 qi, .int .i64 qn, .int .i64 qo, .string qT] 31)) b1 #[.int .i64 qi, .int .i64 qn, .int .i64 qo, .string qT] 33 ∧
      Blk (w9.alloc (.cells #[.int .i64 qi, .int .i64 qn, .int .i64 qo, .string qT] 31)) b2 #[.int .i64 qi, .int .i64 qn, .int .i64 qo, .string qT] 31) := ⟨H11.out.1.alloc (hg ▸ H11.out.1.size) _, H11.out.2.alloc _, hb2 ▸ Blk.new w9 _ _⟩
  clear H11
  generalize w9.alloc (.cells #[.int .i64 qi, .int .i64 qn, .int .i64 qo, .string qT] 31) = w10 at *
  have z0 := fun x : Fut w10 => (Below.blk x.is H12.out.2.1 H12.out.2.1.lt).cell 0
  have z1 := fun x : Fut w10 => (Below.blk x.is H12.out.2.1 H12.out.2.1.lt).cell 1
  have z2 := fun x : Fut w10 => (Below.blk x.is H12.out.2.1 H12.out.2.1.lt).cell 2
  have z3 := fun x : Fut w10 => (Below.blk x.is H12.out.2.1 H12.out.2.1.lt).cell 3
  have u0 := fun x : Fut w10 => (Below.blk x.is H12.out.2.2 H12.out.2.2.lt).cell 0
  have u1 := fun x : Fut w10 => (Below.blk x.is H12.out.2.2 H12.out.2.2.lt).cell 1
  have u2 := fun x : Fut w10 => (Below.blk x.is H12.out.2.2 H12.out.2.2.lt).cell 2
  have u3 := fun x : Fut w10 => (Below.blk x.is H12.out.2.2 H12.out.2.2.lt).cell 3
  simp at z0 z1 z2 z3 u0 u1 u2 u3
  refine wp_region_after (by kernel_rfl) (by kernel_rfl) ?_
  repeat (go_big_quiet_step (exact Calls.after (CQ.out _)))
  refine wpQuiet_nil ?_
  intro x
  have hbx : Hid (Below g w x.at_ ∧ Blk x.at_ b1 #[.int .i64 qi, .int .i64 qn, .int .i64 qo, .string qT] 33) := ⟨H12.out.1.trans (x.is.mono (hg ▸ H12.out.1.size)), Below.blk x.is H12.out.2.1 H12.out.2.1.lt⟩
  clear z0 z1 z2 z3 u0 u1 u2 u3 H12
  by_cases hz : ge = 0
  · subst hz
    obtain ⟨hqm, hqs⟩ := hback.out _ rfl
    have t0 := hbx.out.2.cell 0
    have t1 := hbx.out.2.cell 1
    have t2 := hbx.out.2.cell 2
    have t3 := hbx.out.2.cell 3
    simp at t0 t1 t2 t3
    have CF := Lib.hid (fun w => parts_put ⟨qi, qn, qo, qT⟩ w (hqwf.out hqm) hqm)
    rw [hqs] at CF
    simp only [Pt.cs] at CF
    clear hqm hqs
    go_wp2_with fail
    refine (CF.out _).mono ?_
    rintro e w11 ⟨rfl, hb11⟩
    have H13 := Lib.hid (hbx.out.1.trans (hb11.mono (hg ▸ hbx.out.1.size)))
    clear hb11 hbx
    go_wp2_with fail
    go_returns
    exact ⟨rfl, hg ▸ H13.out⟩
  · have hne : ((ge : Int) != 0) = true := by simp; exact hz
    clear hz
    go_wp2_with fail
    go_returns
    exact ⟨rfl, hg ▸ hbx.out.1⟩

theorem parts_bytes (p : Pt) (s : ByteArray) (w : World) (hwf : p.wf) (hs : s.size ≤ maxLen) :
    Calls Try.prog 7 #[.agg p.cs, .string s] w fun e w' => e = .returned (.bool true) ∧ Below w.heap.size w w' := by
  by_cases h : 1000 < p.text.size ∨ 1000 < s.size
  · exact parts_bytes_far p s w hwf hs h
  · by_cases hm : mayP p
    · exact parts_bytes_near p s w hwf hm (by omega) (by omega)
    · exact parts_bytes_not p s w hwf hm (by omega) (by omega)
end Go.Proofs.Ytemfecdpjegocaa
