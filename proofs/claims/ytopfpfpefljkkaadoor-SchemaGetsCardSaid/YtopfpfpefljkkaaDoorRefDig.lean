/- The document's types: digits. -/
import Derived.Test.YtopfpfpefljkkaaDoorRdNum
namespace Go.Proofs.YtopfpfpefljkkaaDoor
open Go.RowKit
set_option linter.unusedVariables false
set_option linter.unusedSimpArgs false

theorem valC_snoc (ds : List UInt8) (b : UInt8) : valC (ds ++ [b]) = if valC ds < 1000000 then 10 * valC ds + (b.toNat - 48) else valC ds := by unfold valC; rw [List.foldl_append]; rfl
theorem valC_lt : ∀ (k : Nat) (ds : List UInt8), ds.length = k → (∀ b, b ∈ ds → isDig b = true) → valC ds < 10000000 := by
  intro k
  induction k with
  | zero => intro ds h _; rw [List.length_eq_zero_iff.1 h]; simp [valC]
  | succ k ih =>
    intro ds h hd
    obtain ⟨ds', b, rfl⟩ : ∃ ds' b, ds = ds' ++ [b] := ⟨ds.dropLast, ds.getLast (by intro e; simp [e] at h), (List.dropLast_concat_getLast _).symm⟩
    have hb := hd b (by simp)
    simp only [isDig, Bool.and_eq_true, decide_eq_true_eq] at hb
    have := ih ds' (by simpa using h) fun c hc => hd c (by simp [hc])
    rw [valC_snoc]
    split <;> omega
theorem digs_take_dig (l : List UInt8) (k : Nat) : ∀ b, b ∈ (digs l).take k → isDig b = true := fun b hb => digs_dig l b (List.mem_of_mem_take hb)

/-- What digits tells. -/
def DigPost (s : ByteArray) (p : Nat) (w : World) (e : Ending) (w' : World) : Prop :=
  ∃ (n : Nat) (z : Int), e = .returned (.tuple #[.int .i64 (n : Int), .int .i64 z]) ∧ w' = w ∧ n < 10000000 ∧
    ((∃ q : Nat, numC (tailS s p) = some (n, tailS s q) ∧ z = q ∧ q ≤ s.size ∧ p ≤ q) ∨ (numC (tailS s p) = none ∧ z = -1 ∧ n = 0))

set_option maxRecDepth 100000 in
set_option maxHeartbeats 2000000 in
theorem ref_digits (s : ByteArray) (p : Nat) (w : World) (hs : s.size ≤ 1000) (hp : p ≤ s.size) :
    Calls Tryd.prog 36 #[.string s, .int .i64 (p : Int)] w (DigPost s p w) := by
  obtain ⟨D, hD⟩ : ∃ D, (digs (tailS s p)).length = D := ⟨_, rfl⟩
  have HD := Lib.hid hD
  have hDs : p + D ≤ s.size := by
    have h1 := congrArg List.length (digs_past (tailS s p))
    rw [List.length_append, hD] at h1
    have h0 : (tailS s p).length = s.size - p := by unfold tailS; rw [List.length_drop]; rfl
    omega
  have HG : Hid (∀ k, k < D → ∃ h : p + k < s.size, isDig s[p + k] = true ∧ (digs (tailS s p)).take (k + 1) = (digs (tailS s p)).take k ++ [s[p + k]]) := Lib.hid fun k hk => by
    obtain ⟨b, h1, h2, h3⟩ := digs_get (tailS s p) k (by omega)
    obtain ⟨h4, h5⟩ := tailS_get h1
    exact ⟨h4, by rw [h5]; exact h2, by rw [h5]; exact h3⟩
  have HE : Hid (∀ h : p + D < s.size, isDig s[p + D] = false) := Lib.hid fun h => by
    refine past_head (tailS s p) _ ?_
    rw [past_drop, hD, tailS_drop, tailS_lt h]; rfl
  have HL : Hid (past (tailS s p) = tailS s (p + D)) := Lib.hid (by rw [past_drop, hD, tailS_drop])
  have H0 : Hid (0 < D → ∃ h : p < s.size, (digs (tailS s p)).head? = some s[p]) := Lib.hid fun h => by
    obtain ⟨h1, h2, h3⟩ := HG.out 0 h
    refine ⟨by omega, ?_⟩
    have h4 := congrArg List.head? h3
    simp only [Nat.zero_add, List.take_zero, List.nil_append, List.head?_cons, Nat.add_zero] at h4
    rw [← h4]
    cases digs (tailS s p) <;> rfl
  have HB : Hid (∀ k, valC ((digs (tailS s p)).take k) < 10000000) := Lib.hid fun k => valC_lt _ _ rfl (digs_take_dig _ _)
  generalize hP : DigPost s p w = POST
  have HP : Hid (∀ e w', DigPost s p w e w' → POST e w') := Lib.hid fun e w' h => by rw [← hP]; exact h
  clear hD hP
  go_enter Tryd.func36, Tryd.ntmps36
  go_wp2_with fail
  go_loopw [1, 6] (fun iv nv wi => ∃ (k q n : Nat), iv = .int .i64 q ∧ nv = .int .i64 n ∧ Hid (p + k = q) ∧ q ≤ p + D ∧ p ≤ q ∧ Hid (n = valC ((digs (tailS s p)).take k)) ∧ n < 10000000 ∧ wi = w) (fun iv _ _ => p + D - (intOf iv).toNat)
  case atStart => exact ⟨0, p, 0, rfl, rfl, Lib.hid rfl, by omega, by omega, by simp [Hid, valC], by omega, rfl⟩
  case round =>
    obtain ⟨k, q, n, rfl, rfl, HQ, hq1, hq2, HN, hn, rfl⟩ := hrel
    have hkD : k ≤ D := by have := HQ.out; omega
    have HGk := Lib.hid (HG.out k)
    rw [HQ.out] at HGk
    by_cases c : q < p + D
    · obtain ⟨hlt, hdig, htake⟩ := HGk.out (by have := HQ.out; omega)
      simp only [isDig, Bool.and_eq_true, decide_eq_true_eq] at hdig
      have HDG := Lib.hid (And.intro hdig htake)
      have d0 : decide ((q : Int) < s.size) = true := by simp; omega
      have d1 : decide ((48 : Int) ≤ (s[q].toNat : Int)) = true := by simp; omega
      have d2 : decide ((s[q].toNat : Int) ≤ 57) = true := by simp; omega
      have hd48 : 48 ≤ (s[q].toNat : Int) := by omega
      have hd57 : (s[q].toNat : Int) ≤ 57 := by omega
      have HBk := Lib.hid (HB.out (k + 1))
      clear htake hdig HGk
      by_cases cm : n < 1000000
      · have d3 : decide ((n : Int) < 1000000) = true := by simp; omega
        have HM := Lib.hid cm
        clear cm
        go_wp2_with fail
        have hv : valC ((digs (tailS s p)).take (k + 1)) = 10 * n + (s[q].toNat - 48) := by rw [HDG.out.2, valC_snoc, ← HN.out, if_pos HM.out]
        refine ⟨⟨k + 1, q + 1, 10 * n + (s[q].toNat - 48), by go_num, congrArg (Value.int IntKind.i64) (by omega), Lib.hid (by have := HQ.out; omega), by omega, by omega, Lib.hid hv.symm, by have := HBk.out; rw [hv] at this; exact this, by first | trivial | rfl⟩, by simp [intOf]; omega⟩
      · have d3 : decide ((n : Int) < 1000000) = false := by simp; omega
        have HM := Lib.hid cm
        clear cm
        go_wp2_with fail
        have hv : valC ((digs (tailS s p)).take (k + 1)) = n := by rw [HDG.out.2, valC_snoc, ← HN.out, if_neg HM.out]
        refine ⟨⟨k + 1, q + 1, n, by go_num, rfl, Lib.hid (by have := HQ.out; omega), by omega, by omega, Lib.hid hv.symm, hn, by first | trivial | rfl⟩, by simp [intOf]; omega⟩
    · obtain rfl : q = p + D := by omega
      obtain rfl : k = D := by have := HQ.out; omega
      obtain ⟨q, hq⟩ : ∃ q, p + k = q := ⟨_, rfl⟩
      rw [hq] at HGk hq1 hq2 c HL hDs ⊢
      have HE' := Lib.hid HE.out
      rw [hq] at HE'
      have HPQ := Lib.hid hq
      clear HQ HE HGk hq c
      have HN2 : Hid (n = valC (digs (tailS s p))) := Lib.hid (by rw [HN.out, List.take_of_length_le (by have := HD.out; omega)])
      have hend : q = s.size ∨ (∃ h : q < s.size, s[q].toNat < 48) ∨ (∃ h : q < s.size, 57 < s[q].toNat) := by
        rcases Nat.lt_or_ge q s.size with h | h
        · right
          have h2 := HE'.out h
          simp only [isDig, Bool.and_eq_false_iff, decide_eq_false_iff_not] at h2
          rcases h2 with h2 | h2
          · exact .inl ⟨h, by omega⟩
          · exact .inr ⟨h, by omega⟩
        · exact .inl (by omega)
      have hlen : k = 0 ∨ k = 1 ∨ (1 < k ∧ ∃ h : p < s.size, Hid (s[p].toNat = 48)) ∨ (1 < k ∧ ∃ h : p < s.size, Hid (s[p].toNat ≠ 48)) := by
        rcases Nat.lt_or_ge 1 k with h | h
        · obtain ⟨h1, _⟩ := H0.out (by omega)
          by_cases h2 : s[p].toNat = 48
          · exact .inr (.inr (.inl ⟨h, h1, h2⟩))
          · exact .inr (.inr (.inr ⟨h, h1, h2⟩))
        · omega
      have HWD : Hid (wellD (digs (tailS s p)) = (decide (k = 1) || (decide (1 < k) && decide ((digs (tailS s p)).head? ≠ some 48)))) := Lib.hid (by rw [wellD_eq, HD.out])
      have HYES : Hid (wellD (digs (tailS s p)) = true → numC (tailS s p) = some (n, tailS s q)) := Lib.hid fun h => by unfold numC; rw [if_pos h, ← HN2.out, HL.out]
      have HNO : Hid (wellD (digs (tailS s p)) = false → numC (tailS s p) = none) := Lib.hid fun h => by unfold numC; rw [if_neg (by rw [h]; simp)]
      have hq3 : q ≤ s.size := hDs
      have hpq : (q : Int) = p + k := by have := HPQ.out; omega
      have hex : (∃ e1 : Bool, ((q : Int) == p) = e1 ∧ e1 = decide (k = 0)) ∧ ∃ e2 : Bool, decide ((p : Int) + 1 < q) = e2 ∧ e2 = decide (1 < k) := by
        refine ⟨⟨_, rfl, ?_⟩, _, rfl, ?_⟩
        · rw [Bool.eq_iff_iff]; simp; omega
        · rw [decide_eq_decide]; omega
      obtain ⟨⟨e1, hE1, he1⟩, e2, hE2, he2⟩ := hex
      have hps1 : k ≠ 0 → p < s.size := by omega
      clear hpq HG
      rcases hlen with hk1 | hk1 | ⟨hk1, hps, hk3⟩ | ⟨hk1, hps, hk3⟩
      · obtain rfl : e1 = true := by rw [he1]; simp; omega
        have HOK := Lib.hid (HNO.out (by rw [HWD.out]; simp; omega))
        clear he1 he2 hk1 HWD HYES HNO hE2 hps1
        rcases hend with rfl | ⟨hlt, hb'⟩ | ⟨hlt, hb'⟩
        · have d0 : decide ((s.size : Int) < s.size) = false := by simp
          go_wp2_with fail
          exact HP.out _ _ ⟨0, _, rfl, rfl, by omega, .inr ⟨HOK.out, rfl, rfl⟩⟩
        · have d0 : decide ((q : Int) < s.size) = true := by simp; omega
          have d1 : decide ((48 : Int) ≤ (s[q].toNat : Int)) = false := by simp; omega
          clear hb'
          go_wp2_with fail
          exact HP.out _ _ ⟨0, _, rfl, rfl, by omega, .inr ⟨HOK.out, rfl, rfl⟩⟩
        · have d0 : decide ((q : Int) < s.size) = true := by simp; omega
          have d1 : decide ((48 : Int) ≤ (s[q].toNat : Int)) = true := by simp; omega
          have d2 : decide ((s[q].toNat : Int) ≤ 57) = false := by simp; omega
          clear hb'
          go_wp2_with fail
          exact HP.out _ _ ⟨0, _, rfl, rfl, by omega, .inr ⟨HOK.out, rfl, rfl⟩⟩
      · obtain rfl : e1 = false := by rw [he1]; simp; omega
        obtain rfl : e2 = false := by rw [he2]; simp; omega
        have hps : p < s.size := hps1 (by omega)
        have HOK := Lib.hid (HYES.out (by rw [HWD.out]; simp; omega))
        clear he1 he2 hk1 HWD HYES HNO hps1
        rcases Bool.eq_false_or_eq_true ((s[p].toNat : Int) == 48) with d5 | d5
        all_goals
          rcases hend with rfl | ⟨hlt, hb'⟩ | ⟨hlt, hb'⟩
          · have d0 : decide ((s.size : Int) < s.size) = false := by simp
            go_wp2_with fail
            exact HP.out _ _ ⟨n, _, rfl, rfl, hn, .inl ⟨_, HOK.out, rfl, hq3, hq2⟩⟩
          · have d0 : decide ((q : Int) < s.size) = true := by simp; omega
            have d1 : decide ((48 : Int) ≤ (s[q].toNat : Int)) = false := by simp; omega
            clear hb'
            go_wp2_with fail
            exact HP.out _ _ ⟨n, _, rfl, rfl, hn, .inl ⟨_, HOK.out, rfl, hq3, hq2⟩⟩
          · have d0 : decide ((q : Int) < s.size) = true := by simp; omega
            have d1 : decide ((48 : Int) ≤ (s[q].toNat : Int)) = true := by simp; omega
            have d2 : decide ((s[q].toNat : Int) ≤ 57) = false := by simp; omega
            clear hb'
            go_wp2_with fail
            exact HP.out _ _ ⟨n, _, rfl, rfl, hn, .inl ⟨_, HOK.out, rfl, hq3, hq2⟩⟩
      · obtain rfl : e1 = false := by rw [he1]; simp; omega
        obtain rfl : e2 = true := by rw [he2]; simp; omega
        have d5 : ((s[p].toNat : Int) == 48) = true := by have := hk3.out; simp; omega
        have HOK := Lib.hid (HNO.out (by
          obtain ⟨_, h5⟩ := H0.out (by omega)
          rw [HWD.out, h5, show s[p] = 48 from UInt8.toNat_inj.1 hk3.out]; simp; omega))
        clear he1 he2 hk1 HWD HYES HNO hps1
        rcases hend with rfl | ⟨hlt, hb'⟩ | ⟨hlt, hb'⟩
        · have d0 : decide ((s.size : Int) < s.size) = false := by simp
          go_wp2_with fail
          exact HP.out _ _ ⟨0, _, rfl, rfl, by omega, .inr ⟨HOK.out, rfl, rfl⟩⟩
        · have d0 : decide ((q : Int) < s.size) = true := by simp; omega
          have d1 : decide ((48 : Int) ≤ (s[q].toNat : Int)) = false := by simp; omega
          clear hb'
          go_wp2_with fail
          exact HP.out _ _ ⟨0, _, rfl, rfl, by omega, .inr ⟨HOK.out, rfl, rfl⟩⟩
        · have d0 : decide ((q : Int) < s.size) = true := by simp; omega
          have d1 : decide ((48 : Int) ≤ (s[q].toNat : Int)) = true := by simp; omega
          have d2 : decide ((s[q].toNat : Int) ≤ 57) = false := by simp; omega
          clear hb'
          go_wp2_with fail
          exact HP.out _ _ ⟨0, _, rfl, rfl, by omega, .inr ⟨HOK.out, rfl, rfl⟩⟩
      · obtain rfl : e1 = false := by rw [he1]; simp; omega
        obtain rfl : e2 = true := by rw [he2]; simp; omega
        have d5 : ((s[p].toNat : Int) == 48) = false := by have := hk3.out; simp; omega
        have HOK := Lib.hid (HYES.out (by
          obtain ⟨_, h5⟩ := H0.out (by omega)
          have h6 : s[p] ≠ 48 := fun h => hk3.out (by rw [h]; rfl)
          rw [HWD.out, h5]; simp [h6]; omega))
        clear he1 he2 hk1 HWD HYES HNO hps1
        rcases hend with rfl | ⟨hlt, hb'⟩ | ⟨hlt, hb'⟩
        · have d0 : decide ((s.size : Int) < s.size) = false := by simp
          go_wp2_with fail
          exact HP.out _ _ ⟨n, _, rfl, rfl, hn, .inl ⟨_, HOK.out, rfl, hq3, hq2⟩⟩
        · have d0 : decide ((q : Int) < s.size) = true := by simp; omega
          have d1 : decide ((48 : Int) ≤ (s[q].toNat : Int)) = false := by simp; omega
          clear hb'
          go_wp2_with fail
          exact HP.out _ _ ⟨n, _, rfl, rfl, hn, .inl ⟨_, HOK.out, rfl, hq3, hq2⟩⟩
        · have d0 : decide ((q : Int) < s.size) = true := by simp; omega
          have d1 : decide ((48 : Int) ≤ (s[q].toNat : Int)) = true := by simp; omega
          have d2 : decide ((s[q].toNat : Int) ≤ 57) = false := by simp; omega
          clear hb'
          go_wp2_with fail
          exact HP.out _ _ ⟨n, _, rfl, rfl, hn, .inl ⟨_, HOK.out, rfl, hq3, hq2⟩⟩
end Go.Proofs.YtopfpfpefljkkaaDoor
