/- The walks of alive, CompactPuts, CompactReads. -/
import Derived.Test.YtknokfofjhlkeaaDoorCompRef
namespace Go.Proofs.YtknokfofjhlkeaaDoor
open Go.RowKit
set_option linter.unusedVariables false

theorem comp_next_a (w : World) (hT : Tab w) : Calls Tryd.prog 8 #[.string ⟨#[253, 1, 0]⟩] w fun e w' => e = .returned (.tuple #[.int .u64 0, .int .i64 0, .int .i64 3]) ∧ w = w' :=
  comp_next ⟨#[253, 1, 0]⟩ w (by decide) hT
theorem comp_put_a (w : World) (hT : Tab w) : Calls Tryd.prog 7 #[.int .u64 253] w fun e w' => e = .returned (.string ⟨#[253, 253, 0]⟩) ∧ Below w.heap.size w w' :=
  comp_put 253 w (by decide) hT

set_option maxRecDepth 100000 in
theorem comp_alive (w : World) (hT : Tab w) : Calls Tryd.prog 6 #[] w fun e w' => e = .returned (.bool true) ∧ Below w.heap.size w w' := by
  have c1 := Lib.hid (comp_next_a w hT)
  have c2 := Lib.hid (comp_put_a w hT)
  clear hT
  go_enter Tryd.func6, Tryd.ntmps6
  go_wp2_with fail
  refine c1.out.mono ?_
  rintro e w' ⟨rfl, rfl⟩
  go_wp2_with fail
  refine c2.out.mono ?_
  rintro e w1 ⟨rfl, hb⟩
  go_wp2_with fail
  go_returns
  exact ⟨rfl, hb⟩

theorem nat_of_u64 {x : Int} (h : (Lit.int .u64 x).wf = true) : ∃ n : Nat, x = n ∧ n < 18446744073709551616 := by
  have : 0 ≤ x ∧ x ≤ 18446744073709551615 := by simpa [Lit.wf, IntKind.min, IntKind.max, IntKind.signed, IntKind.bits] using h
  exact ⟨x.toNat, by omega, by omega⟩

set_option maxRecDepth 100000 in
set_option maxHeartbeats 400000 in
theorem compact_puts (x : Int) (more : ByteArray) (w : World) (hx : (Lit.int .u64 x).wf = true) (hs : more.size ≤ maxLen) (hT : Tab w) :
    Calls Tryd.prog 3 #[.int .u64 x, .string more] w fun e w' => e = .returned (.bool true) ∧ Below w.heap.size w w' := by
  obtain ⟨n, rfl, hn⟩ := nat_of_u64 hx
  clear hx
  have hs' := hs
  unfold maxLen at hs'
  have ca := Lib.hid (comp_alive w hT)
  have hG := Tab.lt hT
  have HT := Lib.hid hT
  clear hT
  by_cases hlen : 100 < more.size
  · clear hG
    go_enter Tryd.func3, Tryd.ntmps3
    go_wp2_with fail
    refine ca.out.mono ?_
    rintro e w1 ⟨rfl, hb⟩
    go_wp2_with fail
    go_returns
    exact ⟨rfl, hb⟩
  · have hl := cPut_le n
    have c1 := Lib.hid (fun w h => comp_put n w hn h)
    have c2 := Lib.hid (fun w => ref_comp_put n w hn)
    have c4 : Hid (∀ w, Tab w → Calls Tryd.prog 8 #[.string (⟨(cPut n).toArray⟩ ++ more)] w fun e w' => e = .returned (.tuple #[.int .u64 n, .int .i64 (cPut n).length, .int .i64 0]) ∧ w = w') := by
      intro w h
      have := comp_next (⟨(cPut n).toArray⟩ ++ more) w (by unfold maxLen; rw [ByteArray.size_append, size_mk]; omega) h
      have e : ((⟨(cPut n).toArray⟩ : ByteArray) ++ more).data.toList = cPut n ++ more.data.toList := by simp
      rw [e, cNext_put n _ hn] at this
      exact this
    have hsz : (⟨(cPut n).toArray⟩ : ByteArray).size = (cPut n).length := size_mk _
    generalize (⟨(cPut n).toArray⟩ : ByteArray) = P at *
    rw [← hsz] at hl c4
    clear hsz
    go_enter Tryd.func3, Tryd.ntmps3
    go_wp2_with fail
    refine ca.out.mono ?_
    rintro e w1 ⟨rfl, hb⟩
    have hT1 := Lib.hid (HT.out.below hb hG)
    go_wp2_with fail
    refine (c1.out _ hT1.out).mono ?_
    rintro e w2 ⟨rfl, hb2⟩
    have hT2 := Lib.hid (hT1.out.below hb2 (Tab.lt hT1.out))
    go_wp2_with fail
    refine (c4.out _ hT2.out).mono ?_
    rintro e w' ⟨rfl, rfl⟩
    go_wp2_with fail
    refine (c2.out _).mono ?_
    rintro e w3 ⟨rfl, hb3⟩
    go_wp2_with fail
    go_returns
    exact ⟨rfl, hb.trans ((hb2.mono hb.size).trans (hb3.mono (Nat.le_trans hb.size hb2.size)))⟩

set_option maxRecDepth 100000 in
set_option maxHeartbeats 800000 in
theorem compact_reads (s : ByteArray) (c : Int) (w : World) (hs : s.size ≤ maxLen) (hc : (Lit.int .u8 c).wf = true) (hT : Tab w) :
    Calls Tryd.prog 4 #[.string s, .int .u8 c] w fun e w' => e = .returned (.bool true) ∧ Below w.heap.size w w' := by
  have hc01 : 0 ≤ c ∧ c ≤ 255 := by simpa [Lit.wf, IntKind.min, IntKind.max, IntKind.signed, IntKind.bits] using hc
  obtain ⟨hc0, hc1⟩ := hc01
  clear hc
  have ca := Lib.hid (comp_alive w hT)
  have hG := Lib.hid (Tab.lt hT)
  have HT := Lib.hid hT
  clear hT
  by_cases hlen : 200 < s.size
  · unfold maxLen at hs
    go_enter Tryd.func4, Tryd.ntmps4
    go_wp2_with fail
    refine ca.out.mono ?_
    rintro e w1 ⟨rfl, hb⟩
    go_wp2_with fail
    go_returns
    exact ⟨rfl, hb⟩
  · obtain ⟨m, hm, hm1⟩ : ∃ m : Nat, (if (s.size : Int) < c then (s.size : Int) else c) = (m : Int) ∧ m ≤ s.size :=
      ⟨min s.size c.toNat, by split <;> omega, by omega⟩
    have h1 := fun w h => comp_next s w hs h
    have h2 := fun w => ref_comp_next s w hs
    have h3 := fun w h => comp_next (s.extract 0 m) w (by rw [ByteArray.size_extract]; omega) h
    have htake := cNext_take s.data.toList m
    rw [ext_all] at h3
    have hbad := cNext_bad s.data.toList
    have hok := fun N K => cNext_ok (l := s.data.toList) (N := N) (K := K)
    generalize cNext (s.data.toList.take m) = t3 at *
    generalize cNext s.data.toList = t at *
    obtain ⟨n, k, er⟩ := t
    obtain ⟨n3_, k3, er3⟩ := t3
    have H1 : Hid (∀ w, Tab w → Calls Tryd.prog 8 #[.string s] w fun e w' => e = .returned (.tuple #[.int .u64 n, .int .i64 k, .int .i64 er]) ∧ w = w') := h1
    have H2 : Hid (∀ w, Calls Tryd.prog 10 #[.string s] w fun e w' => e = .returned (.tuple #[.int .u64 n, .int .i64 k, .int .i64 er]) ∧ Below w.heap.size w w') := h2
    have H3 : Hid (∀ w, Tab w → Calls Tryd.prog 8 #[.string (s.extract 0 m)] w fun e w' => e = .returned (.tuple #[.int .u64 n3_, .int .i64 k3, .int .i64 er3]) ∧ w = w') := h3
    clear h1 h2 h3
    unfold maxLen at hs
    -- the last test, either way
    have hcut : er3 = 2 ∨ (er3 ≠ 2 ∧ n3_ = n ∧ k3 = k ∧ er3 = er) := by
      rcases htake with h | h
      · exact .inl (by simpa using congrArg (fun t : Nat × Nat × Nat => t.2.2) h)
      · by_cases h2 : er3 = 2
        · exact .inl h2
        · simp only [Prod.mk.injEq] at h
          exact .inr ⟨h2, h⟩
    clear htake
    by_cases her : er = 0
    · subst her
      obtain ⟨hk, hn, hput, hk10⟩ := hok n k rfl
      clear hok hbad
      have hk' : k ≤ s.size := by simpa using hk
      have HE := Lib.hid (neq_of (cPut n) (m := k) (s := s) true (by rw [hput]; simp))
      clear hput hk
      have cp := Lib.hid (fun w h => comp_put n w hn h)
      generalize (⟨(cPut n).toArray⟩ : ByteArray) = P at *
      rcases hcut with rfl | ⟨h2, rfl, rfl, rfl⟩
      · go_enter Tryd.func4, Tryd.ntmps4
        go_wp2_with fail
        refine ca.out.mono ?_
        rintro e w1 ⟨rfl, hb⟩
        have hT1 := Lib.hid (HT.out.below hb hG.out)
        go_wp2_with fail
        refine (H1.out _ hT1.out).mono ?_
        rintro e w' ⟨rfl, rfl⟩
        go_wp2_with fail
        refine (H2.out _).mono ?_
        rintro e w2 ⟨rfl, hb2⟩
        have hT2 := Lib.hid (hT1.out.below hb2 (Tab.lt hT1.out))
        go_wp2_with fail
        refine wp_region_after (by kernel_rfl) (by kernel_rfl) ?_
        repeat (go_big_quiet_step ((go_at_call 7; exact Calls.after (cp.out _ (hT2.out.below (Fut.is _) (Tab.lt hT2.out))))))
        refine wpQuiet_nil ?_
        intro x
        have hT3 := Lib.hid (hT2.out.below x.is (Tab.lt hT2.out))
        go_wp2_with fail
        · have hx : (!(P.toList == (s.extract 0 k).toList)) = true := by assumption
          rw [HE.out] at hx; cases hx
        refine (H3.out _ hT3.out).mono ?_
        rintro e w' ⟨rfl, rfl⟩
        go_wp2_with fail
        go_returns
        exact ⟨rfl, hb.trans ((hb2.mono hb.size).trans (x.is.mono (Nat.le_trans hb.size hb2.size)))⟩
      · have h2' : ((0 : Int) == 2) = false := rfl
        clear h2
        go_enter Tryd.func4, Tryd.ntmps4
        go_wp2_with fail
        refine ca.out.mono ?_
        rintro e w1 ⟨rfl, hb⟩
        have hT1 := Lib.hid (HT.out.below hb hG.out)
        go_wp2_with fail
        refine (H1.out _ hT1.out).mono ?_
        rintro e w' ⟨rfl, rfl⟩
        go_wp2_with fail
        refine (H2.out _).mono ?_
        rintro e w2 ⟨rfl, hb2⟩
        have hT2 := Lib.hid (hT1.out.below hb2 (Tab.lt hT1.out))
        go_wp2_with fail
        refine wp_region_after (by kernel_rfl) (by kernel_rfl) ?_
        repeat (go_big_quiet_step ((go_at_call 7; exact Calls.after (cp.out _ (hT2.out.below (Fut.is _) (Tab.lt hT2.out))))))
        refine wpQuiet_nil ?_
        intro x
        have hT3 := Lib.hid (hT2.out.below x.is (Tab.lt hT2.out))
        go_wp2_with fail
        · have hx : (!(P.toList == (s.extract 0 k3).toList)) = true := by assumption
          rw [HE.out] at hx; cases hx
        refine (H3.out _ hT3.out).mono ?_
        rintro e w' ⟨rfl, rfl⟩
        go_wp2_with fail
        go_returns
        exact ⟨rfl, hb.trans ((hb2.mono hb.size).trans (x.is.mono (Nat.le_trans hb.size hb2.size)))⟩
    · have hne : ((er : Int) != 0) = true := by rw [bne_iff_ne]; omega
      have heq : ((er : Int) == 0) = false := by rw [beq_eq_false_iff_ne]; omega
      clear hok hbad
      rcases hcut with rfl | ⟨h2, rfl, rfl, rfl⟩
      · clear her
        go_enter Tryd.func4, Tryd.ntmps4
        go_wp2_with fail
        refine ca.out.mono ?_
        rintro e w1 ⟨rfl, hb⟩
        have hT1 := Lib.hid (HT.out.below hb hG.out)
        go_wp2_with fail
        refine (H1.out _ hT1.out).mono ?_
        rintro e w' ⟨rfl, rfl⟩
        go_wp2_with fail
        refine (H2.out _).mono ?_
        rintro e w2 ⟨rfl, hb2⟩
        have hT2 := Lib.hid (hT1.out.below hb2 (Tab.lt hT1.out))
        go_wp2_with fail
        refine wp_region_after (by kernel_rfl) (by kernel_rfl) ?_
        repeat (go_big_quiet_step (fail))
        refine wpQuiet_nil ?_
        intro x
        have hT3 := Lib.hid (hT2.out.below x.is (Tab.lt hT2.out))
        go_wp2_with fail
        refine (H3.out _ hT3.out).mono ?_
        rintro e w' ⟨rfl, rfl⟩
        go_wp2_with fail
        go_returns
        exact ⟨rfl, hb.trans ((hb2.mono hb.size).trans (x.is.mono (Nat.le_trans hb.size hb2.size)))⟩
      · have h2' : ((er3 : Int) == 2) = false := by rw [beq_eq_false_iff_ne]; omega
        clear h2 her
        go_enter Tryd.func4, Tryd.ntmps4
        go_wp2_with fail
        refine ca.out.mono ?_
        rintro e w1 ⟨rfl, hb⟩
        have hT1 := Lib.hid (HT.out.below hb hG.out)
        go_wp2_with fail
        refine (H1.out _ hT1.out).mono ?_
        rintro e w' ⟨rfl, rfl⟩
        go_wp2_with fail
        refine (H2.out _).mono ?_
        rintro e w2 ⟨rfl, hb2⟩
        have hT2 := Lib.hid (hT1.out.below hb2 (Tab.lt hT1.out))
        go_wp2_with fail
        refine wp_region_after (by kernel_rfl) (by kernel_rfl) ?_
        repeat (go_big_quiet_step (fail))
        refine wpQuiet_nil ?_
        intro x
        have hT3 := Lib.hid (hT2.out.below x.is (Tab.lt hT2.out))
        go_wp2_with fail
        refine (H3.out _ hT3.out).mono ?_
        rintro e w' ⟨rfl, rfl⟩
        go_wp2_with fail
        go_returns
        exact ⟨rfl, hb.trans ((hb2.mono hb.size).trans (x.is.mono (Nat.le_trans hb.size hb2.size)))⟩
end Go.Proofs.YtknokfofjhlkeaaDoor
