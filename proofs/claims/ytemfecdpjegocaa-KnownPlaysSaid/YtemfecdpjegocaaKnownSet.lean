/- A set that a call itself made; alive of hatchwaylaw31. -/
import Derived.Test.YtemfecdpjegocaaKnownAdd
namespace Go.Proofs.Ytemfecdpjegocaa
open Go.RowKit
set_option linter.unusedVariables false
set_option linter.unusedSimpArgs false

theorem addR_own {bs bm room bl : Nat} {R : List (Nat × List UInt8)} {s : List UInt8} {i : Nat} (h : OwnR bs bm (addR R room bl s) i) : OwnR bs bm R i ∨ i = bl := by
  unfold addR at h
  split at h
  · exact .inl h
  · have key : ∀ x, x ∈ (R ++ [(bl, s)]).map Prod.fst → x ∈ R.map Prod.fst ∨ x = bl := by
      intro x hx
      rw [List.map_append] at hx
      rcases List.mem_append.1 hx with hx | hx
      · exact .inl hx
      · simp at hx; exact .inr hx
    split at h
    · rcases h with h | h | h
      · exact .inl (.inl h)
      · exact .inl (.inr (.inl h))
      · rcases key i (by rw [List.map_tail] at h; exact List.mem_of_mem_tail h) with h | h
        · exact .inl (.inr (.inr h))
        · exact .inr h
    · rcases h with h | h | h
      · exact .inl (.inl h)
      · exact .inl (.inr (.inl h))
      · rcases key i h with h | h
        · exact .inl (.inr (.inr h))
        · exact .inr h

/-- A set that the call itself made, with what lies below it. -/
def KS (B n room : Nat) (w0 w : World) (R : List (Nat × List UInt8)) : Prop := SetAt (B + 1) B n room w R ∧ (∀ i, OwnR (B + 1) B R i → B ≤ i) ∧ Below B w0 w
theorem KS.after {B n room : Nat} {w0 w w' : World} {R : List (Nat × List UInt8)} (h : KS B n room w0 w R) (hb : Below w.heap.size w w') : KS B n room w0 w' R := by
  have hl := h.1.row.bd.lt
  exact ⟨h.1.below hb, h.2.1, h.2.2.trans (hb.mono (by omega))⟩
theorem ks_new (room : Nat) (w : World) (h1 : 1 ≤ room ∧ room ≤ 1024) :
    Calls Try.prog 15 #[.int .i64 room] w fun en w' => en = .returned (.tuple #[.pointer (some ⟨w.heap.size + 1, 0, none⟩), .int .i64 0]) ∧ KS w.heap.size 0 room w w' [] :=
  (known_new room w h1).mono fun en w' ⟨h1, h2, h3, h4⟩ => ⟨h1, ⟨h2, h3, List.nodup_nil, by omega, fun x hx => by cases hx⟩, fun i hi => by rcases hi with rfl | rfl | hi <;> simp_all, h4⟩
/-- What is asked of a body: its sum. -/
def SumOf (body T : ByteArray) : Prop := T.size ≤ 1000 ∧ ∀ w, Calls Try.prog 46 #[.string body] w fun e w' => e = .returned (.string T) ∧ Below w.heap.size w w'
theorem ks_add {B n room : Nat} {w0 w : World} {R : List (Nat × List UInt8)} (h : KS B n room w0 w R) (body T : ByteArray) (hs : SumOf body T) (hroom : 1 ≤ room) (hn : n ≤ 100000) :
    Calls Try.prog 16 #[.pointer (some ⟨B + 1, 0, none⟩), .string body] w fun en w' => ∃ bl, en = .returned (.bool (!hasR R T.data.toList)) ∧ KS B (n + 1) room w0 w' (addR R room bl T.data.toList) := by
  obtain ⟨hsz, hc⟩ := hs
  have hT : T.size ≤ maxLen := by unfold maxLen; omega
  cases hh : hasR R T.data.toList with
  | true =>
    refine (known_add_old h.1 body T hT hc hh).mono ?_
    rintro en w' ⟨rfl, hb⟩
    have hk := h.after hb
    refine ⟨0, rfl, ?_⟩
    have e : addR R room 0 T.data.toList = R := by unfold addR; rw [hh]; rfl
    rw [e]
    obtain ⟨D, hD, r⟩ := hk.1.mp
    exact ⟨⟨hk.1.row, ⟨D, hD.mono (Nat.le_succ _), r⟩, hk.1.nd, hk.1.hb, hk.1.szs⟩, hk.2⟩
  | false =>
    refine (known_add_new h.1 body T hsz hroom (by unfold maxLen; omega) hn hc hh).mono ?_
    rintro en w' ⟨bl, rfl, hbl, hset, hkeep⟩
    have hl := h.1.row.bd.lt
    refine ⟨bl, rfl, hset, fun i hi => ?_, hkeep.below h.2.2 h.2.1 (by omega)⟩
    rcases addR_own hi with hi | rfl
    · exact h.2.1 i hi
    · omega
theorem ks_has {B n room : Nat} {w0 w : World} {R : List (Nat × List UInt8)} (h : KS B n room w0 w R) (body T : ByteArray) (hs : SumOf body T) :
    Calls Try.prog 17 #[.pointer (some ⟨B + 1, 0, none⟩), .string body] w fun en w' => en = .returned (.bool (hasR R T.data.toList)) ∧ KS B n room w0 w' R :=
  (known_has h.1 body T (by have := hs.1; unfold maxLen; omega) hs.2).mono fun en w' ⟨h1, h2⟩ => ⟨h1, h.after h2⟩
theorem ks_len {B n room : Nat} {w0 w : World} {R : List (Nat × List UInt8)} (h : KS B n room w0 w R) :
    Calls Try.prog 18 #[.pointer (some ⟨B + 1, 0, none⟩)] w fun en w' => en = .returned (.int .i64 (R.length : Nat)) ∧ w' = w := known_len h.1
theorem sum_of (body : ByteArray) (h : body.size ≤ 100000) : SumOf body ⟨(twiceN body.data.toList).toArray⟩ := ⟨by rw [size_mk, twiceN_length]; decide, fun w => twice_sum body w h⟩

theorem abc_unlike : twiceN [97] ≠ twiceN [98] ∧ twiceN [97] ≠ twiceN [99] ∧ twiceN [98] ≠ twiceN [99] := by decide +kernel
/-- The rows of the example. -/
theorem al_rows (A Bs C : List UInt8) (h1 : A ≠ Bs) (h2 : A ≠ C) (h3 : Bs ≠ C) (x y z t : Nat) :
    hasR [] A = false ∧ addR [] 2 x A = [(x, A)] ∧ hasR [(x, A)] Bs = false ∧ addR [(x, A)] 2 y Bs = [(x, A), (y, Bs)] ∧ hasR [(x, A), (y, Bs)] A = true ∧ addR [(x, A), (y, Bs)] 2 t A = [(x, A), (y, Bs)] ∧
      hasR [(x, A), (y, Bs)] C = false ∧ addR [(x, A), (y, Bs)] 2 z C = [(y, Bs), (z, C)] ∧ hasR [(y, Bs), (z, C)] A = false ∧ hasR [(y, Bs), (z, C)] Bs = true := by
  have e1 : (A == Bs) = false := by rw [beq_eq_false_iff_ne]; exact h1
  have e2 : (A == C) = false := by rw [beq_eq_false_iff_ne]; exact h2
  have e3 : (Bs == C) = false := by rw [beq_eq_false_iff_ne]; exact h3
  have e4 : (Bs == A) = false := by rw [beq_eq_false_iff_ne]; exact Ne.symm h1
  have e5 : (C == A) = false := by rw [beq_eq_false_iff_ne]; exact Ne.symm h2
  simp [addR, hasR, e1, e2, e3, e4, e5]

set_option maxRecDepth 100000 in
set_option maxHeartbeats 1000000 in
theorem known_alive (w : World) : Calls Try.prog 14 #[] w fun e w' => e = .returned (.bool true) ∧ Below w.heap.size w w' := by
  obtain ⟨SA, hSA⟩ : ∃ SA : ByteArray, SA = ⟨(twiceN [97]).toArray⟩ := ⟨_, rfl⟩
  obtain ⟨SB, hSB⟩ : ∃ SB : ByteArray, SB = ⟨(twiceN [98]).toArray⟩ := ⟨_, rfl⟩
  obtain ⟨SC, hSC⟩ : ∃ SC : ByteArray, SC = ⟨(twiceN [99]).toArray⟩ := ⟨_, rfl⟩
  have sa : SumOf ⟨#[97]⟩ SA := hSA ▸ sum_of ⟨#[97]⟩ (by decide)
  have sb : SumOf ⟨#[98]⟩ SB := hSB ▸ sum_of ⟨#[98]⟩ (by decide)
  have sc : SumOf ⟨#[99]⟩ SC := hSC ▸ sum_of ⟨#[99]⟩ (by decide)
  have hu : SA.data.toList ≠ SB.data.toList ∧ SA.data.toList ≠ SC.data.toList ∧ SB.data.toList ≠ SC.data.toList := by rw [hSA, hSB, hSC]; exact abc_unlike
  have hr := fun x y z t => al_rows SA.data.toList SB.data.toList SC.data.toList hu.1 hu.2.1 hu.2.2 x y z t
  have HR := Lib.hid hr
  have HSA := Lib.hid sa
  have HSB := Lib.hid sb
  have HSC := Lib.hid sc
  clear hSA hSB hSC sa sb sc hu hr
  obtain ⟨B, hB⟩ : ∃ B, w.heap.size = B := ⟨_, rfl⟩
  have CN := Lib.hid (ks_new 2 w (by decide))
  rw [hB] at CN ⊢
  go_enter Try.func14, Try.ntmps14
  go_wp2_with fail
  refine CN.out.mono ?_
  rintro e w1 ⟨rfl, k1⟩
  have K1 := Lib.hid k1
  clear k1
  go_wp2_with fail
  refine (ks_add K1.out ⟨#[97]⟩ SA HSA.out (by decide) (by decide)).mono ?_
  rintro e w2 ⟨x, rfl, k2⟩
  rw [(HR.out x 0 0 0).1]
  rw [(HR.out x 0 0 0).2.1] at k2
  have K2 := Lib.hid k2
  clear k2
  go_wp2_with fail
  refine (ks_add K2.out ⟨#[98]⟩ SB HSB.out (by decide) (by decide)).mono ?_
  rintro e w3 ⟨y, rfl, k3⟩
  rw [(HR.out x y 0 0).2.2.1]
  rw [(HR.out x y 0 0).2.2.2.1] at k3
  have K3 := Lib.hid k3
  clear k3
  go_wp2_with fail
  refine (ks_add K3.out ⟨#[97]⟩ SA HSA.out (by decide) (by decide)).mono ?_
  rintro e w4 ⟨t, rfl, k4⟩
  rw [(HR.out x y 0 t).2.2.2.2.1]
  rw [(HR.out x y 0 t).2.2.2.2.2.1] at k4
  have K4 := Lib.hid k4
  clear k4
  go_wp2_with fail
  refine (ks_add K4.out ⟨#[99]⟩ SC HSC.out (by decide) (by decide)).mono ?_
  rintro e w5 ⟨z, rfl, k5⟩
  rw [(HR.out x y z t).2.2.2.2.2.2.1]
  rw [(HR.out x y z t).2.2.2.2.2.2.2.1] at k5
  have K5 := Lib.hid k5
  clear k5
  go_wp2_with fail
  refine (ks_has K5.out ⟨#[97]⟩ SA HSA.out).mono ?_
  rintro e w6 ⟨rfl, k6⟩
  rw [(HR.out x y z t).2.2.2.2.2.2.2.2.1]
  have K6 := Lib.hid k6
  clear k6
  go_wp2_with fail
  refine (ks_has K6.out ⟨#[98]⟩ SB HSB.out).mono ?_
  rintro e w7 ⟨rfl, k7⟩
  rw [(HR.out x y z t).2.2.2.2.2.2.2.2.2]
  have K7 := Lib.hid k7
  clear k7
  go_wp2_with fail
  refine (ks_len K7.out).mono ?_
  rintro e w8 ⟨rfl, rfl⟩
  go_wp2_with fail
  go_returns
  exact ⟨rfl, K7.out.2.2⟩
end Go.Proofs.Ytemfecdpjegocaa
