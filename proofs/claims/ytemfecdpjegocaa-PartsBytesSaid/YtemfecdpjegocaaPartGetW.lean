/- The walk of parts.Get. -/
import Derived.Test.YtemfecdpjegocaaPartGet
import Derived.Laws.Cover1
namespace Go.Proofs.Ytemfecdpjegocaa
open Go.RowKit
set_option linter.unusedVariables false
set_option linter.unusedSimpArgs false

theorem read_ex (t : ByteArray) (w : World) : Calls Try.prog 53 #[.string t] w fun e w' => ∃ b, e = .returned (.pointer (some ⟨b, 0, none⟩)) ∧ w.heap.size ≤ b ∧ Below w.heap.size w w' ∧ IsR w' b (RS.of t) :=
  (cursor_read t w).mono fun _ _ ⟨he, hb, _, hr⟩ => ⟨_, he, Nat.le_refl _, hb, hr⟩
def GetPost (s : ByteArray) (w : World) (en : Ending) (w' : World) : Prop := en = .returned (.tuple #[.agg (getP s.data.toList).1.cs, .int .i64 ((getP s.data.toList).2 : Nat)]) ∧ Below w.heap.size w w'
theorem wpList_max3_int {P : Program} {t : TypeId} {k : IntKind} {ops : Array Oper} {rest : List Oper} {o : Oper} {a : Act} {w : World} {Q : Exit → Act → World → Prop} (hg : o.guard = none) (x y z : Operand)
    (hop : o.op = .call { callee := .builtin .max, args := #[x, y, z], argTypes := #[t, t, t] }) (i j l m : Int) (hx : a.eval x = .int k i) (hy : a.eval y = .int k j) (hz : a.eval z = .int k l) (hm : max (max i j) l = m)
    (h : wpList P ops Q rest (a.put o.dst (.int k m)) w) : wpList P ops Q (o :: rest) a w := by
  refine wpList_plain hg fun K' hK' => ?_
  unfold Oper.wp
  have he : (if l > (if j > i then j else i) then l else if j > i then j else i) = m := by rw [← hm]; split <;> split <;> omega
  simp [execOp, resolve, invoke, builtin, hop, hx, hy, hz, run_max_int3, Result.andThen]
  have he' : (if (if i < j then j else i) < l then l else if i < j then j else i) = m := he
  rw [he']
  exact hK' _ _ h

theorem set4 {w0 W : World} {g : Nat} {a b c d : Value} {t : TypeId} (h : Blk W g #[a, b, c, d] t) (hb : Below g w0 W) (x y z u : Value) :
    Blk ((((W.setCell ⟨g, 0, none⟩ x).setCell ⟨g, 1, none⟩ y).setCell ⟨g, 2, none⟩ z).setCell ⟨g, 3, none⟩ u) g #[x, y, z, u] t ∧ Below g w0 ((((W.setCell ⟨g, 0, none⟩ x).setCell ⟨g, 1, none⟩ y).setCell ⟨g, 2, none⟩ z).setCell ⟨g, 3, none⟩ u) := by
  have h1 := (((h.set 0 x).set 1 y).set 2 z).set 3 u
  simp only [List.setIfInBounds_toArray, List.set_cons_zero, List.set_cons_succ] at h1
  exact ⟨h1, (((hb.setCell (Nat.le_refl _) _).setCell (Nat.le_refl _) _).setCell (Nat.le_refl _) _).setCell (Nat.le_refl _) _⟩

set_option maxRecDepth 100000 in
set_option maxHeartbeats 2000000 in
theorem parts_get (s : ByteArray) (w : World) (hs : s.size ≤ 100000) : Calls Try.prog 33 #[.string s] w (GetPost s w) := by
  obtain ⟨r1, v1, r2, v2, r3, v3, q1, q2, q3, ok1, ok2, ok3, b1, b2, b3, hf, hgt⟩ := leb3 s (by omega)
  have ok0 : (RS.of s).Ok := RS.Ok.of (by omega)
  have n1 := fun c b w hb hc => part_get_next c b (RS.of s) w ok0 hb hc
  have n2 := fun c b w hb hc => part_get_next c b r1 w ok1 hb hc
  have n3 := fun c b w hb hc => part_get_next c b r2 w ok2 hb hc
  rw [q1] at n1
  rw [q2] at n2
  rw [q3] at n3
  have N1 := Lib.hid n1
  have N2 := Lib.hid n2
  have N3 := Lib.hid n3
  have CR := Lib.hid (fun w => read_ex s w)
  obtain ⟨g, hg⟩ : ∃ g, w.heap.size = g := ⟨_, rfl⟩
  have H1 : Hid (Below g w (w.alloc (.cells #[.int .i64 0, .int .i64 0, .int .i64 0, .string ⟨#[]⟩] 33)) ∧ Blk (w.alloc (.cells #[.int .i64 0, .int .i64 0, .int .i64 0, .string ⟨#[]⟩] 33)) g #[.int .i64 0, .int .i64 0, .int .i64 0, .string ⟨#[]⟩] 33) :=
    ⟨(Below.refl _ _).alloc (by omega) _, hg ▸ Blk.new w _ _⟩
  have HQ := Lib.hid (And.intro ok3 (And.intro hf (And.intro hgt hg)))
  clear q1 q2 q3 n1 n2 n3 ok0 ok1 ok2 ok3 hf hgt
  go_enter Try.func33, Try.ntmps33
  go_wp2_with fail
  refine (CR.out _).mono ?_
  rintro e w2 ⟨b, rfl, hbge, hb2, hR2⟩
  have hg1 : g < b := by have := H1.out.2.lt; omega
  obtain ⟨c, hc⟩ : ∃ c, w2.heap.size = c := ⟨_, rfl⟩
  have hbc : b < c := by rw [← hc]; exact Blk.lt hR2
  have H3 : Hid (Below g w (w2.alloc (.cells #[.pointer (some ⟨b, 0, none⟩)] 111)) ∧ Blk (w2.alloc (.cells #[.pointer (some ⟨b, 0, none⟩)] 111)) g #[.int .i64 0, .int .i64 0, .int .i64 0, .string ⟨#[]⟩] 33 ∧ IsR (w2.alloc (.cells #[.pointer (some ⟨b, 0, none⟩)] 111)) b (RS.of s) ∧ Blk (w2.alloc (.cells #[.pointer (some ⟨b, 0, none⟩)] 111)) c #[.pointer (some ⟨b, 0, none⟩)] 111) := by
    have h1 := H1.out.1.trans (hb2.mono (by have := H1.out.2.lt; omega))
    exact ⟨h1.alloc (by have := H1.out.2.lt; have := hb2.size; omega) _, (Below.blk hb2 H1.out.2 H1.out.2.lt).alloc _, Blk.alloc hR2 _, hc ▸ Blk.new w2 _ _⟩
  clear hb2 hR2 H1
  have hcl : Hid (g < b ∧ b < c) := ⟨hg1, hbc⟩
  obtain ⟨W3, hW3⟩ : ∃ W3, w2.alloc (.cells #[.pointer (some ⟨b, 0, none⟩)] 111) = W3 := ⟨_, rfl⟩
  rw [hW3] at H3
  have C3 : W3.cell? ⟨c, 0, none⟩ = some (.pointer (some ⟨b, 0, none⟩)) := H3.out.2.2.2.cell 0
  have HS3 : Hid (g ≤ W3.heap.size) := by have := H3.out.2.1.lt; exact Nat.le_of_lt this
  have step : ∀ (W W' : World) (r r' : RS), (Below g w W ∧ Blk W g #[.int .i64 0, .int .i64 0, .int .i64 0, .string ⟨#[]⟩] 33 ∧ IsR W b r ∧ Blk W c #[.pointer (some ⟨b, 0, none⟩)] 111) → Upd b W W' → IsR W' b r' →
      (Below g w W' ∧ Blk W' g #[.int .i64 0, .int .i64 0, .int .i64 0, .string ⟨#[]⟩] 33 ∧ IsR W' b r' ∧ Blk W' c #[.pointer (some ⟨b, 0, none⟩)] 111) := fun W W' r r' h hu hr =>
    ⟨hu.below h.1 (Nat.le_of_lt hcl.out.1) (Nat.le_of_lt h.2.1.lt), hu.blk h.2.1 (by have := hcl.out.1; omega), hr, hu.blk h.2.2.2 (by have := hcl.out.2; omega)⟩
  have STEP := Lib.hid step
  clear step
  go_wp2_with fail
  clear hW3 hc
  refine (N1.out c b _ H3.out.2.2.1 C3).mono ?_
  rintro e w4 ⟨rfl, hu4, hr4⟩
  have H4 := Lib.hid (STEP.out _ _ _ _ H3.out hu4 hr4)
  have C4 : w4.cell? ⟨c, 0, none⟩ = some (.pointer (some ⟨b, 0, none⟩)) := H4.out.2.2.2.cell 0
  clear hu4 hr4 H3 C3
  go_wp2_with fail
  refine (N2.out c b _ H4.out.2.2.1 C4).mono ?_
  rintro e w5 ⟨rfl, hu5, hr5⟩
  have H5 := Lib.hid (STEP.out _ _ _ _ H4.out hu5 hr5)
  have C5 : w5.cell? ⟨c, 0, none⟩ = some (.pointer (some ⟨b, 0, none⟩)) := H5.out.2.2.2.cell 0
  clear hu5 hr5 H4 C4
  go_wp2_with fail
  refine (N3.out c b _ H5.out.2.2.1 C5).mono ?_
  rintro e w6 ⟨rfl, hu6, hr6⟩
  have H6 := Lib.hid (STEP.out _ _ _ _ H5.out hu6 hr6)
  have C6 : w6.cell? ⟨c, 0, none⟩ = some (.pointer (some ⟨b, 0, none⟩)) := H6.out.2.2.2.cell 0
  clear hu6 hr6 H5 C5 HS3
  go_wp2_with fail
  refine (cursor_fault b r3 w6 H6.out.2.2.1).mono ?_
  rintro e w7 ⟨rfl, rfl⟩
  have HLT6 : Hid (g ≤ w6.heap.size) := Nat.le_of_lt H6.out.2.1.lt
  have e0 : w6.cell? ⟨g, 0, none⟩ = some (.int .i64 0) := H6.out.2.1.cell 0
  have e1 : w6.cell? ⟨g, 1, none⟩ = some (.int .i64 0) := H6.out.2.1.cell 1
  have e2 : w6.cell? ⟨g, 2, none⟩ = some (.int .i64 0) := H6.out.2.1.cell 2
  have e3 : w6.cell? ⟨g, 3, none⟩ = some (.string ⟨#[]⟩) := H6.out.2.1.cell 3
  have ff := H6.out.2.1.free
  by_cases he : (get3 s.data.toList).2.2.2.2 = 0
  case neg =>
    have hne : (r3.f != 0) = true := by rw [bne_iff_ne, HQ.out.2.1]; omega
    have hgp : getP s.data.toList = (zeroPt, (get3 s.data.toList).2.2.2.2) := by unfold getP; simp only; rw [if_pos he]
    have HGP : Hid (∀ W, Below w.heap.size w W → GetPost s w (.returned (.tuple #[.agg #[.int .i64 0, .int .i64 0, .int .i64 0, .string ⟨#[]⟩], .int .i64 r3.f])) W) := fun W hW => by
      refine ⟨?_, hW⟩
      rw [hgp, HQ.out.2.1]; rfl
    clear he hgp
    generalize r3.f = fv at *
    go_wp2_with fail
    obtain ⟨hbF, hbelF⟩ := set4 H6.out.2.1 H6.out.1 (.int .i64 0) (.int .i64 0) (.int .i64 0) (.string ⟨#[]⟩)
    have d0 := hbF.cell 0
    have d1 := hbF.cell 1
    have d2 := hbF.cell 2
    have d3 := hbF.cell 3
    simp at d0 d1 d2 d3
    generalize ((((w6.setCell ⟨g, 0, none⟩ (.int .i64 0)).setCell ⟨g, 1, none⟩ (.int .i64 0)).setCell ⟨g, 2, none⟩ (.int .i64 0)).setCell ⟨g, 3, none⟩ (.string ⟨#[]⟩)) = WF at *
    refine bodyPost_ret (v := .tuple #[.agg #[(.int .i64 0), (.int .i64 0), (.int .i64 0), (.string ⟨#[]⟩)], .int .i64 fv]) (by simp [results, Try.results33, go_sem, d0, d1, d2, d3]) rfl ?_
    exact HGP.out _ (HQ.out.2.2.2 ▸ hbelF)
  case pos =>
    have hz : r3.f = 0 := by rw [HQ.out.2.1, he]; rfl
    obtain ⟨hgt3, ht3⟩ := HQ.out.2.2.1 he
    obtain ⟨T, hT⟩ : ∃ T : ByteArray, T = ⟨(s.data.toList.drop r3.p).toArray⟩ := ⟨_, rfl⟩
    have hgp : getP s.data.toList = if mayP ⟨v1, v2, v3, T⟩ then (⟨v1, v2, v3, T⟩, 0) else (zeroPt, 3) := by
      unfold getP
      rw [hgt3]
      simp only [ne_eq, not_true_eq_false, if_false, hT]
    have HBAD : Hid (¬ mayP ⟨v1, v2, v3, T⟩ → ∀ W, Below w.heap.size w W → GetPost s w (.returned (.tuple #[.agg #[.int .i64 0, .int .i64 0, .int .i64 0, .string ⟨#[]⟩], .int .i64 3])) W) := fun hn W hW => by
      refine ⟨?_, hW⟩
      rw [hgp, if_neg hn]; rfl
    have HGOOD : Hid (mayP ⟨v1, v2, v3, T⟩ → ∀ W, Below w.heap.size w W → GetPost s w (.returned (.tuple #[.agg #[.int .i64 v1, .int .i64 v2, .int .i64 v3, .string T], .int .i64 0])) W) := fun hy W hW => by
      refine ⟨?_, hW⟩
      rw [hgp, if_pos hy]; rfl
    have hTs : Hid (T.size ≤ 100000) := by
      unfold Hid
      rw [hT, size_mk, List.length_drop]
      have : s.data.toList.length = s.size := Array.length_toList
      omega
    have hall : Hid ((r3.take ((r3.t.size : Int) - r3.p)).2 = T) := by
      unfold Hid RS.take
      have hok := HQ.out.1
      rw [if_pos hz, if_neg (by have := hok.1; omega), if_neg (by omega), ht3, hT]
      have e2 : r3.p + ((s.size : Int) - (r3.p : Int)).toNat = s.size := by have := hok.1; rw [ht3] at this; omega
      rw [e2]
      apply ByteArray.ext; apply Array.ext'
      simp only
      rw [Lib.extract_data, List.take_of_length_le (by
        rw [List.length_drop]
        have : s.data.toList.length = s.size := Array.length_toList
        omega)]
    have HZ := Lib.hid hz
    rw [hz]
    obtain ⟨m, hm⟩ : ∃ m : Nat, max (max v1 v2) v3 = m := ⟨_, rfl⟩
    have hmz : max (max (v1 : Int) (v2 : Int)) (v3 : Int) = (m : Int) := by omega
    have hmb : m < 18446744073709551616 := by omega
    clear he hz hgt3 ht3 hgp hT
    by_cases hbig : 2147483647 < m
    · have d7 : decide (2147483647 < (m : Int)) = true := by simp; omega
      have hnm : Hid (¬ mayP ⟨v1, v2, v3, T⟩) := by
        rintro ⟨⟨_, h1⟩, ⟨_, h2⟩, ⟨_, h3⟩, _, _⟩
        simp only at h1 h2 h3
        omega
      go_wp2_with (refine wpList_max3_int rfl (.tmp 26) (.tmp 27) (.tmp 28) rfl v1 v2 v3 m rfl rfl rfl hmz ?_)
      obtain ⟨hbF, hbelF⟩ := set4 H6.out.2.1 H6.out.1 (.int .i64 0) (.int .i64 0) (.int .i64 0) (.string ⟨#[]⟩)
      have d0 := hbF.cell 0
      have d1 := hbF.cell 1
      have d2 := hbF.cell 2
      have d3 := hbF.cell 3
      simp at d0 d1 d2 d3
      generalize ((((w6.setCell ⟨g, 0, none⟩ (.int .i64 0)).setCell ⟨g, 1, none⟩ (.int .i64 0)).setCell ⟨g, 2, none⟩ (.int .i64 0)).setCell ⟨g, 3, none⟩ (.string ⟨#[]⟩)) = WF at *
      refine bodyPost_ret (v := .tuple #[.agg #[(.int .i64 0), (.int .i64 0), (.int .i64 0), (.string ⟨#[]⟩)], .int .i64 3]) (by simp [results, Try.results33, go_sem, d0, d1, d2, d3]) rfl ?_
      exact (HBAD.out hnm.out) _ (HQ.out.2.2.2 ▸ hbelF)
    · have d7 : decide (2147483647 < (m : Int)) = false := by simp; omega
      have c1 : v1 ≤ 2147483647 := by omega
      have c2 : v2 ≤ 2147483647 := by omega
      have c3 : v3 ≤ 2147483647 := by omega
      go_wp2_with (refine wpList_max3_int rfl (.tmp 26) (.tmp 27) (.tmp 28) rfl v1 v2 v3 m rfl rfl rfl hmz ?_)
      refine (cursor_all b r3 w6 HQ.out.1 H6.out.2.2.1).mono ?_
      rintro e w8 ⟨rfl, hu8, hr8⟩
      rw [hall.out]
      have H8 := Lib.hid (STEP.out _ _ _ _ H6.out hu8 hr8)
      clear hu8 hr8 e0 e1 e2 e3 ff d7 C6
      obtain ⟨k, hk⟩ : ∃ k, w8.heap.size = k := ⟨_, rfl⟩
      have hgk : g < k := by rw [← hk]; exact H8.out.2.1.lt
      have H9 : Hid (Below g w (w8.alloc (.cells #[.int .i64 v1, .int .i64 v2, .int .i64 v3, .string T] 33)) ∧ Blk (w8.alloc (.cells #[.int .i64 v1, .int .i64 v2, .int .i64 v3, .string T] 33)) g #[.int .i64 0, .int .i64 0, .int .i64 0, .string ⟨#[]⟩] 33 ∧ Blk (w8.alloc (.cells #[.int .i64 v1, .int .i64 v2, .int .i64 v3, .string T] 33)) k #[.int .i64 v1, .int .i64 v2, .int .i64 v3, .string T] 33) :=
        ⟨H8.out.1.alloc (by omega) _, H8.out.2.1.alloc _, hk ▸ Blk.new w8 _ _⟩
      have hwf : Hid (Pt.wf ⟨v1, v2, v3, T⟩) := by
        refine ⟨?_, ?_, ?_, ?_⟩
        · simp [Lit.wf, IntKind.min, IntKind.max, IntKind.signed, IntKind.bits]; omega
        · simp [Lit.wf, IntKind.min, IntKind.max, IntKind.signed, IntKind.bits]; omega
        · simp [Lit.wf, IntKind.min, IntKind.max, IntKind.signed, IntKind.bits]; omega
        · have := hTs.out; unfold maxLen; simp only; omega
      have CM := Lib.hid (fun w => parts_may ⟨v1, v2, v3, T⟩ w hwf.out)
      go_wp2_with fail
      refine (CM.out _).mono ?_
      rintro e w10 ⟨rfl, hb10⟩
      have H10 : Hid (Below g w w10 ∧ Blk w10 g #[.int .i64 0, .int .i64 0, .int .i64 0, .string ⟨#[]⟩] 33 ∧ Blk w10 k #[.int .i64 v1, .int .i64 v2, .int .i64 v3, .string T] 33) :=
        ⟨H9.out.1.trans (hb10.mono (Nat.le_of_lt H9.out.2.1.lt)), Below.blk hb10 H9.out.2.1 H9.out.2.1.lt, Below.blk hb10 H9.out.2.2 H9.out.2.2.lt⟩
      have e0 : w10.cell? ⟨g, 0, none⟩ = some (.int .i64 0) := H10.out.2.1.cell 0
      have e1 : w10.cell? ⟨g, 1, none⟩ = some (.int .i64 0) := H10.out.2.1.cell 1
      have e2 : w10.cell? ⟨g, 2, none⟩ = some (.int .i64 0) := H10.out.2.1.cell 2
      have e3 : w10.cell? ⟨g, 3, none⟩ = some (.string ⟨#[]⟩) := H10.out.2.1.cell 3
      have ff := H10.out.2.1.free
      have k0 : w10.cell? ⟨k, 0, none⟩ = some (.int .i64 v1) := H10.out.2.2.cell 0
      have k1 : w10.cell? ⟨k, 1, none⟩ = some (.int .i64 v2) := H10.out.2.2.cell 1
      have k2 : w10.cell? ⟨k, 2, none⟩ = some (.int .i64 v3) := H10.out.2.2.cell 2
      have k3 : w10.cell? ⟨k, 3, none⟩ = some (.string T) := H10.out.2.2.cell 3
      clear hb10 H9 H8 H6 hmz
      by_cases hy : mayP ⟨v1, v2, v3, T⟩
      · rw [decide_eq_true hy]
        have HY := Lib.hid hy
        clear hy
        go_wp2_with fail
        obtain ⟨hbF, hbelF⟩ := set4 H10.out.2.1 H10.out.1 (.int .i64 (v1 : Int)) (.int .i64 (v2 : Int)) (.int .i64 (v3 : Int)) (.string T)
        have d0 := hbF.cell 0
        have d1 := hbF.cell 1
        have d2 := hbF.cell 2
        have d3 := hbF.cell 3
        simp at d0 d1 d2 d3
        generalize ((((w10.setCell ⟨g, 0, none⟩ (.int .i64 (v1 : Int))).setCell ⟨g, 1, none⟩ (.int .i64 (v2 : Int))).setCell ⟨g, 2, none⟩ (.int .i64 (v3 : Int))).setCell ⟨g, 3, none⟩ (.string T)) = WF at *
        refine bodyPost_ret (v := .tuple #[.agg #[(.int .i64 (v1 : Int)), (.int .i64 (v2 : Int)), (.int .i64 (v3 : Int)), (.string T)], .int .i64 0]) (by simp [results, Try.results33, go_sem, d0, d1, d2, d3]) rfl ?_
        exact (HGOOD.out HY.out) _ (HQ.out.2.2.2 ▸ hbelF)
      · rw [decide_eq_false hy]
        have HY := Lib.hid hy
        clear hy
        go_wp2_with fail
        obtain ⟨hbF, hbelF⟩ := set4 H10.out.2.1 H10.out.1 (.int .i64 0) (.int .i64 0) (.int .i64 0) (.string ⟨#[]⟩)
        have d0 := hbF.cell 0
        have d1 := hbF.cell 1
        have d2 := hbF.cell 2
        have d3 := hbF.cell 3
        simp at d0 d1 d2 d3
        generalize ((((w10.setCell ⟨g, 0, none⟩ (.int .i64 0)).setCell ⟨g, 1, none⟩ (.int .i64 0)).setCell ⟨g, 2, none⟩ (.int .i64 0)).setCell ⟨g, 3, none⟩ (.string ⟨#[]⟩)) = WF at *
        refine bodyPost_ret (v := .tuple #[.agg #[(.int .i64 0), (.int .i64 0), (.int .i64 0), (.string ⟨#[]⟩)], .int .i64 3]) (by simp [results, Try.results33, go_sem, d0, d1, d2, d3]) rfl ?_
        exact (HBAD.out HY.out) _ (HQ.out.2.2.2 ▸ hbelF)
end Go.Proofs.Ytemfecdpjegocaa
