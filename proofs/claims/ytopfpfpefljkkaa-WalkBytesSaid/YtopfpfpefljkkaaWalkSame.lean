/- Rows of tokens that are alike. -/
import Derived.Test.YtopfpfpefljkkaaWalkLaw
import Derived.Laws.StructEq
namespace Go.Proofs.Ytopfpfpefljkkaa
open Go.RowKit
set_option linter.unusedVariables false
set_option linter.unusedSimpArgs false

/-- A struct of a number and a text is alike itself. -/
theorem eq_fields2 {P : Program} (w : World) (d : Nat) {fs : List Field} {tk tx : TypeId} (hf : fs.map (fun f => (f.name == "_", f.type, f.offset)) = [(false, tk, 0), (false, tx, 1)]) (h1 : P.underlying tk = some (.int .i64)) (h2 : P.underlying tx = some .string) (kk : Int) (tt : ByteArray) :
    (Op.eqFields (d + 1) #[.int .i64 kk, .string tt] #[.int .i64 kk, .string tt] fs).run P w = .ok true w := by
  have hl : fs.length = 2 := by have := congrArg List.length hf; simpa using this
  obtain ⟨f, g, rfl⟩ : ∃ f g, fs = [f, g] := by
    rcases fs with _ | ⟨f, _ | ⟨g, _ | ⟨h, r⟩⟩⟩
    · simp at hl
    · simp at hl
    · exact ⟨f, g, rfl⟩
    · simp at hl
  · simp only [List.map_cons, List.map_nil, List.cons.injEq, Prod.mk.injEq, and_true, beq_eq_false_iff_ne] at hf
    obtain ⟨⟨a1, a2, a3⟩, b1, b2, b3⟩ := hf
    have p1 : ∀ w, (part f.type #[.int .i64 kk, .string tt] f.offset).run P w = .ok (.int .i64 kk) w := fun w => by rw [a2, a3]; simp [part, isAgg, run_underlying h1]
    have p2 : ∀ w, (part g.type #[.int .i64 kk, .string tt] g.offset).run P w = .ok (.string tt) w := fun w => by rw [b2, b3]; simp [part, isAgg, run_underlying h2]
    simp only [Op.eqFields, a1, b1, ne_eq, not_false_eq_true, if_true, Sem.run_bind, p1, p2, Result.andThen_ok]
    rw [run_equalIn_int w d f.type .i64 .i64 kk kk (a2 ▸ h1)]
    simp only [beq_self_eq_true, Bool.not_true, Bool.false_eq_true, if_false, Sem.run_bind, p2, Result.andThen_ok]
    rw [run_equalIn_string w d g.type tt tt (b2 ▸ h2)]
    simp
theorem tk_eq (kk : Int) (tt : ByteArray) (w : World) : (Op.equalIn 10000 DT (.agg #[.int .i64 kk, .string tt]) (.agg #[.int .i64 kk, .string tt])).run Try.prog w = .ok true w := by
  rw [run_equalIn_struct w 9999 DT _ _ (by kernel_rfl) (by kernel_rfl)]
  exact eq_fields2 w 9998 (tk := 3) (tx := 9) (by kernel_rfl) Try.underlying3 Try.underlying9 kk tt
theorem tk_guard : Try.prog.eqGuardType Try.prog.depth DT = false := by kernel_rfl

set_option maxRecDepth 100000 in
set_option maxHeartbeats 4000000 in
theorem law_same (T : List Tk) (w : World) (v u : Value) (h : RdG tkf 2 w v T) (h2 : RdG tkf 2 w u T) (hT : T.length ≤ 100000) :
    Calls Try.prog 27 #[v, u] w fun e w' => e = .returned (.bool true) ∧ Below w.heap.size w w' := by
  obtain ⟨oa, cap, rfl⟩ := h.slice
  obtain ⟨ob, cap2, rfl⟩ := h2.slice
  obtain ⟨N, hN⟩ : ∃ N, T.length = N := ⟨_, rfl⟩
  have H := Lib.hid h
  have H2 := Lib.hid h2
  have HN := Lib.hid hN
  rw [hN] at H H2 hT ⊢
  clear h h2 hN
  go_enter Try.func27, Try.ntmps27
  go_wp2_with fail
  go_loopw [5] (fun iv wi => ∃ k : Nat, iv = .int .i64 k ∧ k ≤ N ∧ Hid (Below w.heap.size w wi)) (fun iv _ => N - (intOf iv).toNat)
  case atStart => exact ⟨0, rfl, by omega, Lib.hid (Below.refl _ _)⟩
  case round =>
    obtain ⟨k, rfl, hk, hbe⟩ := hrel
    by_cases c : k < N
    · obtain ⟨t, ht⟩ : ∃ t, T[k]? = some t := ⟨_, List.getElem?_eq_getElem (by rw [HN.out]; exact c)⟩
      obtain ⟨b, off, rfl, hb, hc⟩ := (H.out.below hbe.out).at_ ht
      obtain ⟨b2, off2, rfl, hb2, hc2⟩ := (H2.out.below hbe.out).at_ ht
      have c0 := hc 0 (by decide)
      have c1 := hc 1 (by decide)
      have d0 := hc2 0 (by decide)
      have d1 := hc2 1 (by decide)
      simp only [Nat.add_zero, tkf, List.getElem?_cons_zero, List.getElem?_cons_succ] at c0 c1 d0 d1
      obtain ⟨kk, tt⟩ := t
      dsimp only at c0 c1 d0 d1
      clear hc hc2 ht
      have q1 := fun w => tk_eq kk tt w
      have q3 := tk_guard
      go_upto_region 6 with fail
      refine wp_region_quiet_lit (by kernel_rfl) (by kernel_rfl) ?_
      repeat (go_big_quiet_step (fail))
      refine wpQuiet_nil ?_
      rintro w' ⟨nq, rfl⟩
      have HB2 : Hid (Below w.heap.size w (wr.drewN nq)) := Lib.hid ⟨hbe.out.os, hbe.out.tape, hbe.out.output, hbe.out.size, hbe.out.block⟩
      clear q1 q3 c0 c1 d0 d1
      go_wp2_with fail
      go_roundw
      case rel => exact ⟨k + 1, by go_num, by omega, HB2⟩
      case measure => simp [intOf]; omega
    · obtain rfl : k = N := by omega
      go_wp2_with fail
      go_returns
      exact ⟨rfl, hbe.out⟩
end Go.Proofs.Ytopfpfpefljkkaa
