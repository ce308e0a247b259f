/- The document's functions of types: right, May, Same. -/
import Derived.Test.YtopfpfpefljkkaaDoorTypeDoc
namespace Go.Proofs.YtopfpfpefljkkaaDoor
open Go.RowKit
set_option linter.unusedVariables false
set_option linter.unusedSimpArgs false

theorem eqOr (z c : Int) : ((z == c) = true ∧ Hid (z = c)) ∨ ((z == c) = false ∧ Hid (z ≠ c)) := by
  by_cases h : z = c
  · exact .inl ⟨by simp [h], h⟩
  · exact .inr ⟨by simp [h], h⟩
theorem leOr (a b : Int) : (decide (a ≤ b) = true ∧ Hid (a ≤ b)) ∨ (decide (a ≤ b) = false ∧ Hid (b < a)) := by
  by_cases h : a ≤ b
  · exact .inl ⟨by simp [h], h⟩
  · exact .inr ⟨by simp [h], by unfold Hid; omega⟩
theorem kindOr (k : Int) : k = 1 ∨ k = 2 ∨ k = 3 ∨ k = 4 ∨ k = 5 ∨ ((k == 1) = false ∧ (k == 2) = false ∧ (k == 3) = false ∧ (k == 4) = false ∧ (k == 5) = false ∧ Hid (k ≠ 1 ∧ k ≠ 2 ∧ k ≠ 3 ∧ k ≠ 4 ∧ k ≠ 5)) := by
  by_cases h1 : k = 1
  · exact .inl h1
  by_cases h2 : k = 2
  · exact .inr (.inl h2)
  by_cases h3 : k = 3
  · exact .inr (.inr (.inl h3))
  by_cases h4 : k = 4
  · exact .inr (.inr (.inr (.inl h4)))
  by_cases h5 : k = 5
  · exact .inr (.inr (.inr (.inr (.inl h5))))
  · exact .inr (.inr (.inr (.inr (.inr ⟨by simp [h1], by simp [h2], by simp [h3], by simp [h4], by simp [h5], h1, h2, h3, h4, h5⟩))))
theorem sizeOr (z : Int) : z = 1 ∨ z = 2 ∨ z = 4 ∨ z = 8 ∨ ((z == 1) = false ∧ (z == 2) = false ∧ (z == 4) = false ∧ (z == 8) = false ∧ Hid (z ≠ 1 ∧ z ≠ 2 ∧ z ≠ 4 ∧ z ≠ 8)) := by
  by_cases h1 : z = 1
  · exact .inl h1
  by_cases h2 : z = 2
  · exact .inr (.inl h2)
  by_cases h4 : z = 4
  · exact .inr (.inr (.inl h4))
  by_cases h8 : z = 8
  · exact .inr (.inr (.inr (.inl h8)))
  · exact .inr (.inr (.inr (.inr ⟨by simp [h1], by simp [h2], by simp [h4], by simp [h8], h1, h2, h4, h8⟩)))

set_option maxRecDepth 100000 in
set_option maxHeartbeats 4000000 in
theorem doc_right (x : Rose TL) : ∀ (w : World) (v : Value), TSubs w v x.sub → x.count ≤ 1000 →
    Calls Tryd.prog 22 #[.agg #[.int .i64 x.lab.kind, .int .i64 x.lab.size, v, .int .i64 x.lab.tail]] w fun e w' => e = .returned (.bool (x.all right1)) ∧ Below w.heap.size w w' := by
  induction x using Rose.ind with
  | h a s ih =>
    intro w v hv hc
    obtain ⟨kind, size, tail⟩ := a
    simp only [Rose.sub_node, Rose.lab_node, Rose.count] at hv hc ⊢
    obtain ⟨oa, cap, rfl, hcap, hml⟩ := TSubs.slice hv
    obtain ⟨g, hg⟩ : ∃ g, w.heap.size = g := ⟨_, rfl⟩
    have HW := Lib.hid (box_type (k := kind) (z := size) (l := tail) (t := 24) hv)
    have hls := Rose.length_le_countL s
    have HR : Hid ((Rose.node ⟨kind, size, tail⟩ s).all right1 = (rightK ⟨kind, size, tail⟩ s.length && Rose.allL right1 s)) := Lib.hid rfl
    obtain ⟨M, hM⟩ : ∃ M, s.length = M := ⟨_, rfl⟩
    have HM := Lib.hid hM
    have IH := Lib.hid ih
    obtain ⟨C, hC⟩ : ∃ C, Rose.countL s = C := ⟨_, rfl⟩
    have HC := Lib.hid hC
    obtain ⟨A, hA⟩ : ∃ A, Rose.allL right1 s = A := ⟨_, rfl⟩
    have HA := Lib.hid hA
    rw [HR.out]
    clear HR
    rw [hg] at HW ⊢
    rw [hM] at HW hls ⊢
    rw [hC] at hc hls
    rw [hA]
    clear hv hcap hml ih hM hC hA
    go_enter Tryd.func22, Tryd.ntmps22
    go_upto_region 1 with fail
    generalize w.alloc (.cells #[.int .i64 kind, .int .i64 size, .slice oa M cap, .int .i64 tail] 24) = w1 at *
    obtain ⟨hb1, ht1, hsz, c0, c1, c2, c3⟩ := HW.out _ rfl
    have H1 := Lib.hid (And.intro hb1 ht1)
    clear HW hb1 ht1
    go_upto_block 0 with fail
    go_cut [3] (fun sv wx => sv = .bool (rightK ⟨kind, size, tail⟩ M) ∧ wx = w1)
    case first =>
      have e0 := eqOr (M : Int) 0
      have e1 := eqOr (M : Int) 1
      have t0 := eqOr tail 0
      have m16 := leOr (M : Int) 16
      have tg := leOr 0 tail
      have tl := leOr tail (M : Int)
      rcases kindOr kind with rfl | rfl | rfl | rfl | rfl | ⟨k1, k2, k3, k4, k5, HK⟩
      · rcases sizeOr size with rfl | rfl | rfl | rfl | ⟨z1, z2, z3, z4, HZ⟩ <;> rcases e0 with ⟨e0, E0⟩ | ⟨e0, E0⟩ <;> rcases t0 with ⟨t0, T0⟩ | ⟨t0, T0⟩
        all_goals (go_wp2_with fail; go_meet; refine ⟨congrArg Value.bool ?_, rfl⟩; have q1 := E0.out; have q2 := T0.out; (try (have q3 := HZ.out)); unfold rightK; symm; first | (apply decide_eq_true; dsimp only; omega) | (apply decide_eq_false; dsimp only; omega))
      · rcases leOr 1 size with ⟨zl, ZL⟩ | ⟨zl, ZL⟩ <;> rcases leOr size 65536 with ⟨zh, ZH⟩ | ⟨zh, ZH⟩ <;> rcases e0 with ⟨e0, E0⟩ | ⟨e0, E0⟩ <;> rcases t0 with ⟨t0, T0⟩ | ⟨t0, T0⟩
        all_goals (go_wp2_with fail; go_meet; refine ⟨congrArg Value.bool ?_, rfl⟩; have q1 := E0.out; have q2 := T0.out; have q3 := ZL.out; have q4 := ZH.out; unfold rightK; symm; first | (apply decide_eq_true; dsimp only; omega) | (apply decide_eq_false; dsimp only; omega))
      · rcases leOr 0 size with ⟨zl, ZL⟩ | ⟨zl, ZL⟩ <;> rcases leOr size 65536 with ⟨zh, ZH⟩ | ⟨zh, ZH⟩ <;> rcases e0 with ⟨e0, E0⟩ | ⟨e0, E0⟩ <;> rcases t0 with ⟨t0, T0⟩ | ⟨t0, T0⟩
        all_goals (go_wp2_with fail; go_meet; refine ⟨congrArg Value.bool ?_, rfl⟩; have q1 := E0.out; have q2 := T0.out; have q3 := ZL.out; have q4 := ZH.out; unfold rightK; symm; first | (apply decide_eq_true; dsimp only; omega) | (apply decide_eq_false; dsimp only; omega))
      · rcases leOr 0 size with ⟨zl, ZL⟩ | ⟨zl, ZL⟩ <;> rcases leOr size 1024 with ⟨zh, ZH⟩ | ⟨zh, ZH⟩ <;> rcases e1 with ⟨e0, E0⟩ | ⟨e0, E0⟩ <;> rcases t0 with ⟨t0, T0⟩ | ⟨t0, T0⟩
        all_goals (go_wp2_with fail; go_meet; refine ⟨congrArg Value.bool ?_, rfl⟩; have q1 := E0.out; have q2 := T0.out; have q3 := ZL.out; have q4 := ZH.out; unfold rightK; symm; first | (apply decide_eq_true; dsimp only; omega) | (apply decide_eq_false; dsimp only; omega))
      · rcases eqOr size 0 with ⟨z0, Z0⟩ | ⟨z0, Z0⟩ <;> rcases m16 with ⟨m16, M16⟩ | ⟨m16, M16⟩ <;> rcases tg with ⟨tg, TG⟩ | ⟨tg, TG⟩ <;> rcases tl with ⟨tl, TL'⟩ | ⟨tl, TL'⟩
        all_goals (go_wp2_with fail; go_meet; refine ⟨congrArg Value.bool ?_, rfl⟩; have q1 := Z0.out; have q2 := M16.out; have q3 := TG.out; have q4 := TL'.out; unfold rightK; symm; first | (apply decide_eq_true; dsimp only; omega) | (apply decide_eq_false; dsimp only; omega))
      · go_wp2_with fail
        go_meet
        exact ⟨congrArg Value.bool (by have := HK.out; simp [rightK]; omega), rfl⟩
    case rest =>
      obtain ⟨rfl, rfl⟩ := hcut
      clear c0 c1 c3
      obtain ⟨R, hR⟩ : ∃ R, rightK ⟨kind, size, tail⟩ M = R := ⟨_, rfl⟩
      have HRR := Lib.hid hR
      rw [hR]
      clear hR
      go_wp2_with fail
      go_loopw [3, 5] (fun bv iv wi => ∃ (k : Nat) (b : Bool), iv = .int .i64 k ∧ k ≤ M ∧ bv = .bool b ∧ Hid (b = (R && Rose.allL right1 (s.take k))) ∧ Hid (Below (g + 1) wc wi)) (fun _ iv _ => M - (intOf iv).toNat)
      case atStart => exact ⟨0, R, rfl, by omega, rfl, by simp [Hid, Rose.allL], Lib.hid (Below.refl _ _)⟩
      case round =>
        obtain ⟨k, b, rfl, hk, rfl, HB, hbe⟩ := hrel
        have hcr : wr.cell? ⟨g, 2, none⟩ = some (.slice oa M cap) := (hbe.out.cell (p := ⟨g, 2, none⟩) (Nat.lt_succ_self g)).trans c2
        have HF : Hid (Below g w wr) := Lib.hid (H1.out.1.trans (hbe.out.mono (by omega)))
        have hend : Hid (k = M ∨ b = false → b = (R && A)) := Lib.hid fun h => by
          have h1 := HB.out
          rcases h with h | h
          · have htk : s.take k = s := by rw [h, ← HM.out, List.take_length]
            rw [htk, HA.out] at h1; exact h1
          · have h2 : Rose.allL right1 s = (Rose.allL right1 (s.take k) && Rose.allL right1 (s.drop k)) := by
              rw [← Rose.allL_append, List.take_append_drop]
            rw [← HA.out, h2, h]
            rw [h] at h1
            revert h1
            cases R <;> cases Rose.allL right1 (s.take k) <;> simp
        by_cases c : k < M
        · cases b with
          | true =>
            obtain ⟨hc', y, hy⟩ : ∃ h : k < s.length, ∃ y, s[k]? = some y := ⟨by rw [HM.out]; exact c, _, List.getElem?_eq_getElem (by rw [HM.out]; exact c)⟩
            obtain ⟨bb, off, u, rfl, hlt, y0, y1, y2, y3, hu, hwf⟩ := TSubs.at_ (Shape.Subs.below H1.out.2 (hsz ▸ hbe.out)) hy
            have hle := Rose.countL_mem (List.mem_of_getElem? hy)
            rw [HC.out] at hle
            have CY := Lib.hid (IH.out y (List.mem_of_getElem? hy) wr u hu (by omega))
            have HCT : Hid (y.all right1 = (R && Rose.allL right1 (s.take (k + 1)))) := by
              have h1 := HB.out
              unfold Hid; rw [Rose.allL_take hy, ← Bool.and_assoc, ← h1]; rfl
            have hbk : Hid (∀ w2, Below wr.heap.size wr w2 → Below (g + 1) wc w2) := Lib.hid fun w2 hb2 => hbe.out.trans (hb2.mono (by have := hbe.out.size; omega))
            clear hu hwf
            go_wp2_with fail
            refine (CY.out).mono ?_
            rintro e w2 ⟨rfl, hb2⟩
            go_wp2_with fail
            go_roundw
            case rel => exact ⟨k + 1, _, by go_num, by omega, rfl, HCT, Lib.hid (hbk.out _ hb2)⟩
            case measure => simp [intOf]; omega
          | false =>
            have HE := Lib.hid (hend.out (.inr rfl))
            go_wp2_with fail
            go_returns
            rw [HRR.out, ← HE.out]
            exact ⟨rfl, HF.out⟩
        · obtain rfl : k = M := by omega
          have HE := Lib.hid (hend.out (.inl rfl))
          go_wp2_with fail
          go_returns
          rw [HRR.out, ← HE.out]
          exact ⟨rfl, HF.out⟩
end Go.Proofs.YtopfpfpefljkkaaDoor
