/- Package schema: the reader's passes and number. -/
import Derived.Test.YtopfpfpefljkkaaDoorTypeSame
import Derived.Test.YtopfpfpefljkkaaDoorSchPut
import Derived.RegionTactic
import Derived.BigRegion
import Derived.ChangeAlike
import Derived.Deep.QuietTactic
import Derived.BigQuiet
namespace Go.Proofs.YtopfpfpefljkkaaDoor
open Go.RowKit
set_option linter.unusedVariables false
set_option linter.unusedSimpArgs false

/-- The reader in block b: its text, the place, how many types are left. -/
def RdB (w : World) (b : Nat) (s : ByteArray) (p l : Nat) : Prop := Blk w b #[.string s, .int .i64 (p : Int), .int .i64 (l : Int)] 39
theorem RdB.c0 {w : World} {b : Nat} {s : ByteArray} {p l : Nat} (h : RdB w b s p l) : w.cell? ⟨b, 0, none⟩ = some (.string s) := h.cell 0
theorem RdB.c1 {w : World} {b : Nat} {s : ByteArray} {p l : Nat} (h : RdB w b s p l) : w.cell? ⟨b, 1, none⟩ = some (.int .i64 p) := h.cell 1
theorem RdB.c2 {w : World} {b : Nat} {s : ByteArray} {p l : Nat} (h : RdB w b s p l) : w.cell? ⟨b, 2, none⟩ = some (.int .i64 l) := h.cell 2
theorem RdB.drewN {w : World} {b : Nat} {s : ByteArray} {p l : Nat} (h : RdB w b s p l) (n : Nat) : RdB (w.drewN n) b s p l := Blk.drewN h n
theorem RdB.move {w : World} {b : Nat} {s : ByteArray} {p l : Nat} (h : RdB w b s p l) (q : Nat) : RdB (w.setCell ⟨b, 1, none⟩ (.int .i64 (q : Int))) b s q l := Blk.set h 1 _
theorem RdB.left {w : World} {b : Nat} {s : ByteArray} {p l : Nat} (h : RdB w b s p l) (q : Nat) : RdB (w.setCell ⟨b, 2, none⟩ (.int .i64 (q : Int))) b s p q := Blk.set h 2 _
theorem Upd.drewN {b : Nat} {u v : World} (h : Upd b u v) (n : Nat) : Upd b u (v.drewN n) := ⟨h.os, h.tape, h.output, h.size, h.block⟩

/-- What is still to be read. -/
def tailS (s : ByteArray) (p : Nat) : List UInt8 := s.data.toList.drop p
theorem tailS_lt {s : ByteArray} {p : Nat} (h : p < s.size) : tailS s p = s[p] :: tailS s (p + 1) := by
  unfold tailS
  rw [List.drop_eq_getElem_cons (by simpa using h)]
  rfl
theorem tailS_end {s : ByteArray} {p : Nat} (h : s.size ≤ p) : tailS s p = [] := by
  unfold tailS
  exact List.drop_eq_nil_of_le (by simpa using h)
theorem tailS_nil {s : ByteArray} {p : Nat} (hp : p ≤ s.size) (h : tailS s p = []) : p = s.size := by
  rcases Nat.lt_or_ge p s.size with h' | h'
  · rw [tailS_lt h'] at h; cases h
  · omega

/-- Does the byte c stand next? -/
def nextIs (c : UInt8) (l : List UInt8) : Bool := decide (l.head? = some c)

set_option maxRecDepth 100000 in
set_option maxHeartbeats 1000000 in
theorem rd_passes (b : Nat) (s : ByteArray) (p l : Nat) (c : UInt8) (w : World) (hs : s.size ≤ maxLen) (hp : p ≤ s.size) (hb : RdB w b s p l) :
    Calls Tryd.prog 34 #[.pointer (some ⟨b, 0, none⟩), .int .u8 (c.toNat : Int)] w fun e w' => e = .returned (.bool (nextIs c (tailS s p))) ∧ Upd b w w' ∧
      RdB w' b s (if nextIs c (tailS s p) then p + 1 else p) l := by
  unfold maxLen at hs
  have c0 := hb.c0
  have c1 := hb.c1
  have f1 := Blk.free hb 1
  have HB := Lib.hid hb
  clear hb
  rcases Nat.lt_or_ge p s.size with h | h
  · have hn : nextIs c (tailS s p) = decide (s[p] = c) := by rw [tailS_lt h]; simp [nextIs]
    have e0 : ((p : Int) == s.size) = false := by simp; omega
    rw [hn]
    by_cases hc : s[p] = c
    · have d0 : ((s[p].toNat : Int) != (c.toNat : Int)) = false := by rw [hc]; simp
      rw [decide_eq_true hc]
      clear hn hc
      go_enter Tryd.func34, Tryd.ntmps34
      go_wp2_with fail
      go_quiet (fail)
      go_wp2_with fail
      go_returns
      exact ⟨rfl, ((Upd.refl b w).drewN _).set 1 _, by simpa using (HB.out.drewN _).move (p + 1)⟩
    · have d0 : ((s[p].toNat : Int) != (c.toNat : Int)) = true := by
        rw [bne_iff_ne]; intro h'; exact hc (UInt8.toNat_inj.1 (by omega))
      rw [decide_eq_false hc]
      clear hn hc
      go_enter Tryd.func34, Tryd.ntmps34
      go_wp2_with fail
      go_quiet (fail)
      go_wp2_with fail
      go_returns
      exact ⟨rfl, (Upd.refl b w).drewN _, HB.out.drewN _⟩
  · obtain rfl : p = s.size := by omega
    have hn : nextIs c (tailS s s.size) = false := by rw [tailS_end (Nat.le_refl _)]; rfl
    rw [hn]
    clear hn
    go_enter Tryd.func34, Tryd.ntmps34
    go_wp2_with fail
    go_quiet (fail)
    go_wp2_with fail
    go_returns
    exact ⟨rfl, (Upd.refl b w).drewN _, HB.out.drewN _⟩

/-! ### Numbers -/
theorem digs_get : ∀ (l : List UInt8) (k : Nat), k < (digs l).length → ∃ b, l[k]? = some b ∧ isDig b = true ∧ (digs l).take (k + 1) = (digs l).take k ++ [b]
  | [], k, h => by simp [digs] at h
  | c :: r, k, h => by
    by_cases hc : isDig c = true
    · have e : digs (c :: r) = c :: digs r := by simp [digs, hc]
      rw [e] at h ⊢
      cases k with
      | zero => exact ⟨c, rfl, hc, rfl⟩
      | succ k =>
        obtain ⟨b, h1, h2, h3⟩ := digs_get r k (by simpa using h)
        exact ⟨b, by simpa using h1, h2, by rw [List.take_succ_cons, h3]; rfl⟩
    · have e : digs (c :: r) = [] := by simp [digs, hc]
      rw [e] at h
      simp at h
theorem past_drop : ∀ (l : List UInt8), past l = l.drop (digs l).length
  | [] => rfl
  | c :: r => by
    by_cases hc : isDig c = true
    · simp [digs, past, hc, past_drop r]
    · simp [digs, past, hc]
theorem past_head : ∀ (l : List UInt8) (b : UInt8), (past l).head? = some b → isDig b = false
  | [], b, h => by simp [past] at h
  | c :: r, b, h => by
    by_cases hc : isDig c = true
    · simp only [past, hc, if_true] at h; exact past_head r b h
    · simp only [past, hc, if_false] at h
      simp at h
      subst h
      simpa using hc
theorem valD_take_le (ds : List UInt8) (k : Nat) : valD (ds.take k) ≤ valD ds := by
  unfold valD
  conv => rhs; rw [← List.take_append_drop k ds, List.foldl_append]
  exact foldl_ge _ _
theorem tailS_get {s : ByteArray} {p k : Nat} {b : UInt8} (h : (tailS s p)[k]? = some b) : ∃ h : p + k < s.size, s[p + k] = b := by
  unfold tailS at h
  rw [List.getElem?_drop] at h
  obtain ⟨h1, h2⟩ := List.getElem?_eq_some_iff.1 h
  exact ⟨by simpa using h1, h2⟩
theorem tailS_drop (s : ByteArray) (p k : Nat) : (tailS s p).drop k = tailS s (p + k) := by unfold tailS; rw [List.drop_drop]
theorem wellD_eq (ds : List UInt8) : wellD ds = (decide (ds.length = 1) || (decide (1 < ds.length) && decide (ds.head? ≠ some 48))) := by
  cases ds with
  | nil => rfl
  | cons b r => cases r with
    | nil => rfl
    | cons c r =>
      simp only [wellD, List.length_cons, List.head?_cons]
      have : (b.toNat ≠ 48) ↔ (some b ≠ some (48 : UInt8)) := by
        constructor
        · intro h h'; cases h'; exact h rfl
        · intro h h'; exact h (congrArg some (UInt8.toNat_inj.1 h'))
      simp [this]

theorem num_over {most : Nat} {l : List UInt8} (h : most < valD (digs l)) : num most l = none := by
  unfold num
  rw [if_neg]
  simp; intro _; omega
theorem num_well {most : Nat} {l : List UInt8} (h : wellD (digs l) = false) : num most l = none := by
  unfold num
  rw [if_neg]
  simp [h]
theorem num_some {most : Nat} {l : List UInt8} (h : wellD (digs l) = true) (hm : valD (digs l) ≤ most) : num most l = some (valD (digs l), past l) := by
  unfold num
  rw [if_pos]
  simp [h, hm]

theorem rd_meas {D p k q : Nat} (h : p + k = q) (c : k < D) : D - (q + 1 - p) < D - (q - p) := by omega
/-- What number tells. -/
def NumPost (b : Nat) (s : ByteArray) (p l most : Nat) (w : World) (e : Ending) (w' : World) : Prop :=
  ∃ (n : Nat) (ok : Bool) (p' : Nat), e = .returned (.tuple #[.int .i64 (n : Int), .bool ok]) ∧ Upd b w w' ∧ RdB w' b s p' l ∧ p' ≤ s.size ∧ n ≤ most ∧
    (ok = true → num most (tailS s p) = some (n, tailS s p')) ∧ (ok = false → num most (tailS s p) = none)

set_option maxRecDepth 100000 in
set_option maxHeartbeats 2000000 in
theorem rd_number (b : Nat) (s : ByteArray) (p l most : Nat) (w : World) (hs : s.size ≤ maxLen) (hp : p ≤ s.size) (hm : most ≤ 65536) (hb : RdB w b s p l) :
    Calls Tryd.prog 33 #[.pointer (some ⟨b, 0, none⟩), .int .i64 (most : Int)] w (NumPost b s p l most w) := by
  unfold maxLen at hs
  have c1 := hb.c1
  have HB := Lib.hid hb
  obtain ⟨D, hD⟩ : ∃ D, (digs (tailS s p)).length = D := ⟨_, rfl⟩
  have HD := Lib.hid hD
  have hDs : p + D ≤ s.size := by
    have h1 := congrArg List.length (digs_past (tailS s p))
    rw [List.length_append, hD] at h1
    have h0 : (tailS s p).length = s.size - p := by unfold tailS; rw [List.length_drop]; rfl
    omega
  have HG : Hid (∀ k, k < D → ∃ h : p + k < s.size, isDig s[p + k] = true ∧ (digs (tailS s p)).take (k + 1) = (digs (tailS s p)).take k ++ [s[p + k]]) := Lib.hid fun k hk => by
    obtain ⟨b, h1, h2, h3⟩ := digs_get (tailS s p) k (by omega)
    obtain ⟨h4, h5⟩ := tailS_get h1
    exact ⟨h4, by rw [h5]; exact h2, by rw [h5]; exact h3⟩
  have HE : Hid (∀ h : p + D < s.size, isDig s[p + D] = false) := Lib.hid fun h => by
    refine past_head (tailS s p) _ ?_
    rw [past_drop, hD, tailS_drop, tailS_lt h]; rfl
  have HL : Hid (past (tailS s p) = tailS s (p + D)) := Lib.hid (by rw [past_drop, hD, tailS_drop])
  have H0 : Hid (0 < D → ∃ h : p < s.size, (digs (tailS s p)).head? = some s[p]) := Lib.hid fun h => by
    obtain ⟨h1, h2, h3⟩ := HG.out 0 h
    refine ⟨by omega, ?_⟩
    have h4 := congrArg List.head? h3
    simp only [Nat.zero_add, List.take_zero, List.nil_append, List.head?_cons, Nat.add_zero] at h4
    rw [← h4]
    cases digs (tailS s p) <;> rfl
  generalize hP : NumPost b s p l most w = POST
  have HP : Hid (∀ e w', NumPost b s p l most w e w' → POST e w') := Lib.hid fun e w' h => by rw [← hP]; exact h
  clear hb hD hP
  go_enter Tryd.func33, Tryd.ntmps33
  go_wp2_with fail
  clear c1
  go_loopw [7] (fun nv wi => ∃ (k n : Nat), nv = .int .i64 n ∧ k ≤ D ∧ n ≤ most ∧ Hid (n = valD ((digs (tailS s p)).take k)) ∧ Hid (RdB wi b s (p + k) l) ∧ Hid (Upd b w wi)) (fun _ wi => D - (match wi.cell? ⟨b, 1, none⟩ with | some v => (intOf v).toNat - p | none => 0))
  case atStart => exact ⟨0, 0, rfl, by omega, by omega, by simp [Hid, valD], Lib.hid HB.out, Lib.hid (Upd.refl _ _)⟩
  case round =>
    obtain ⟨k, n, rfl, hk, hn, HN, HR, HU⟩ := hrel
    obtain ⟨q, hq⟩ : ∃ q, p + k = q := ⟨_, rfl⟩
    have HQ := Lib.hid hq
    rw [hq] at HR
    have hqs : q ≤ s.size := by omega
    have c0 := HR.out.c0
    have c1 := HR.out.c1
    have f1 := Blk.free HR.out 1
    have HGk := Lib.hid (HG.out k)
    rw [hq] at HGk
    clear hq
    by_cases c : k < D
    · obtain ⟨hlt, hdig, htake⟩ := HGk.out c
      simp only [isDig, Bool.and_eq_true, decide_eq_true_eq] at hdig
      have HDG := Lib.hid (And.intro hdig htake)
      have d0 : decide ((q : Int) < s.size) = true := by simp; omega
      have d1 : decide ((48 : Int) ≤ (s[q].toNat : Int)) = true := by simp; omega
      have d2 : decide ((s[q].toNat : Int) ≤ 57) = true := by simp; omega
      have hd48 : 48 ≤ (s[q].toNat : Int) := by omega
      have hd57 : (s[q].toNat : Int) ≤ 57 := by omega
      clear htake hdig
      by_cases cm : most < 10 * n + (s[q].toNat - 48)
      · have d3 : decide ((most : Int) < 10 * (n : Int) + ((s[q].toNat : Int) - 48)) = true := by simp; omega
        have HM := Lib.hid cm
        clear cm
        go_wp2_with fail
        go_quiet (fail)
        go_wp2_with fail
        go_quiet (fail)
        go_wp2_with fail
        refine HP.out _ _ ⟨0, false, q + 1, rfl, (HU.out.drewN _).set 1 _, by simpa using (HR.out.drewN _).move (q + 1), hlt, by omega, (fun h => by cases h), fun _ => num_over ?_⟩
        have h1 := HM.out
        have h2 := valD_take_le (digs (tailS s p)) (k + 1)
        rw [HDG.out.2, valD_snoc, ← HN.out] at h2
        omega
      · have d3 : decide ((most : Int) < 10 * (n : Int) + ((s[q].toNat : Int) - 48)) = false := by simp; omega
        have HM := Lib.hid cm
        clear cm
        go_wp2_with fail
        go_quiet (fail)
        go_wp2_with fail
        go_quiet (fail)
        go_wp2_with fail
        have hrd : ∀ m, RdB ((wr.drewN m).setCell ⟨b, 1, none⟩ (.int .i64 ((q : Int) + 1))) b s (q + 1) l := fun m => by simpa using (HR.out.drewN m).move (q + 1)
        refine ⟨⟨k + 1, 10 * n + (s[q].toNat - 48), by congr 1; omega, by omega, by have := HM.out; omega, Lib.hid ?_, Lib.hid (by rw [show p + (k + 1) = q + 1 by have := HQ.out; omega]; exact hrd _), Lib.hid ((HU.out.drewN _).set 1 _)⟩, ?_⟩
        · rw [HDG.out.2, valD_snoc, ← HN.out]
        · have e1 := fun m => (hrd m).c1
          have h3 := HQ.out
          simp only [e1, c1, intOf, Int.toNat_natCast]
          exact rd_meas h3 c
    · obtain rfl : k = D := by omega
      have HN2 : Hid (n = valD (digs (tailS s p))) := Lib.hid (by rw [HN.out, List.take_of_length_le (by have := HD.out; omega)])
      have HL2 : Hid (past (tailS s p) = tailS s q) := Lib.hid (by rw [HL.out, HQ.out])
      have hend : q = s.size ∨ (∃ h : q < s.size, s[q].toNat < 48) ∨ (∃ h : q < s.size, 57 < s[q].toNat) := by
        rcases Nat.lt_or_ge q s.size with h | h
        · right
          have h1 := HE.out
          rw [HQ.out] at h1
          have h2 := h1 h
          simp only [isDig, Bool.and_eq_false_iff, decide_eq_false_iff_not] at h2
          rcases h2 with h2 | h2
          · exact .inl ⟨h, by omega⟩
          · exact .inr ⟨h, by omega⟩
        · exact .inl (by omega)
      have hlen : k = 0 ∨ k = 1 ∨ (1 < k ∧ ∃ h : p < s.size, Hid (s[p].toNat = 48)) ∨ (1 < k ∧ ∃ h : p < s.size, Hid (s[p].toNat ≠ 48)) := by
        rcases Nat.lt_or_ge 1 k with h | h
        · obtain ⟨h1, _⟩ := H0.out (by omega)
          by_cases h2 : s[p].toNat = 48
          · exact .inr (.inr (.inl ⟨h, h1, h2⟩))
          · exact .inr (.inr (.inr ⟨h, h1, h2⟩))
        · omega
      have HWD : Hid (wellD (digs (tailS s p)) = (decide (k = 1) || (decide (1 < k) && decide ((digs (tailS s p)).head? ≠ some 48)))) := Lib.hid (by rw [wellD_eq, HD.out])
      have fin : Hid (∀ ok : Bool, wellD (digs (tailS s p)) = ok → (ok = true → num most (tailS s p) = some (n, tailS s q)) ∧ (ok = false → num most (tailS s p) = none)) := Lib.hid fun ok hok =>
        ⟨fun h => by rw [num_some (by rw [hok, h]) (by rw [← HN2.out]; omega), ← HN2.out, HL2.out], fun h => num_well (by rw [hok, h])⟩
      have hpq : (q : Int) = p + k := by have := HQ.out; omega
      have HPQ := Lib.hid hpq
      have hex : (∃ e1 : Bool, ((q : Int) - p == 1) = e1 ∧ e1 = decide (k = 1)) ∧ ∃ e2 : Bool, decide (1 < (q : Int) - p) = e2 ∧ e2 = decide (1 < k) := by
        refine ⟨⟨_, rfl, ?_⟩, _, rfl, ?_⟩
        · rw [Bool.eq_iff_iff]; simp; omega
        · rw [decide_eq_decide]; omega
      obtain ⟨⟨e1, hE1, he1⟩, e2, hE2, he2⟩ := hex
      clear hpq HGk
      rcases hlen with hk1 | hk1 | ⟨hk1, hps, hk3⟩ | ⟨hk1, hps, hk3⟩
      · obtain rfl : e1 = false := by rw [he1]; simp; omega
        obtain rfl : e2 = false := by rw [he2]; simp; omega
        have HOK := Lib.hid (fin.out false (by rw [HWD.out]; simp; omega))
        clear he1 he2 hk1 fin HWD
        rcases hend with rfl | ⟨hlt, hb'⟩ | ⟨hlt, hb'⟩
        · have d0 : decide ((s.size : Int) < s.size) = false := by simp
          go_wp2_with fail
          go_quiet (fail)
          go_wp2_with fail
          go_quiet (fail)
          go_wp2_with fail
          exact HP.out _ _ ⟨n, false, _, rfl, (HU.out.drewN _).drewN _, (HR.out.drewN _).drewN _, hqs, hn, by have h := HOK.out; simpa using h⟩
        · have d0 : decide ((q : Int) < s.size) = true := by simp; omega
          have d1 : decide ((48 : Int) ≤ (s[q].toNat : Int)) = false := by simp; omega
          clear hb'
          go_wp2_with fail
          go_quiet (fail)
          go_wp2_with fail
          go_quiet (fail)
          go_wp2_with fail
          exact HP.out _ _ ⟨n, false, _, rfl, (HU.out.drewN _).drewN _, (HR.out.drewN _).drewN _, hqs, hn, by have h := HOK.out; simpa using h⟩
        · have d0 : decide ((q : Int) < s.size) = true := by simp; omega
          have d1 : decide ((48 : Int) ≤ (s[q].toNat : Int)) = true := by simp; omega
          have d2 : decide ((s[q].toNat : Int) ≤ 57) = false := by simp; omega
          clear hb'
          go_wp2_with fail
          go_quiet (fail)
          go_wp2_with fail
          go_quiet (fail)
          go_wp2_with fail
          exact HP.out _ _ ⟨n, false, _, rfl, (HU.out.drewN _).drewN _, (HR.out.drewN _).drewN _, hqs, hn, by have h := HOK.out; simpa using h⟩
      · obtain rfl : e1 = true := by rw [he1]; simp; omega
        have HOK := Lib.hid (fin.out true (by rw [HWD.out]; simp; omega))
        clear he1 he2 hE2 hk1 fin HWD
        rcases hend with rfl | ⟨hlt, hb'⟩ | ⟨hlt, hb'⟩
        · have d0 : decide ((s.size : Int) < s.size) = false := by simp
          go_wp2_with fail
          go_quiet (fail)
          go_wp2_with fail
          go_quiet (fail)
          go_wp2_with fail
          exact HP.out _ _ ⟨n, true, _, rfl, (HU.out.drewN _).drewN _, (HR.out.drewN _).drewN _, hqs, hn, by have h := HOK.out; simpa using h⟩
        · have d0 : decide ((q : Int) < s.size) = true := by simp; omega
          have d1 : decide ((48 : Int) ≤ (s[q].toNat : Int)) = false := by simp; omega
          clear hb'
          go_wp2_with fail
          go_quiet (fail)
          go_wp2_with fail
          go_quiet (fail)
          go_wp2_with fail
          exact HP.out _ _ ⟨n, true, _, rfl, (HU.out.drewN _).drewN _, (HR.out.drewN _).drewN _, hqs, hn, by have h := HOK.out; simpa using h⟩
        · have d0 : decide ((q : Int) < s.size) = true := by simp; omega
          have d1 : decide ((48 : Int) ≤ (s[q].toNat : Int)) = true := by simp; omega
          have d2 : decide ((s[q].toNat : Int) ≤ 57) = false := by simp; omega
          clear hb'
          go_wp2_with fail
          go_quiet (fail)
          go_wp2_with fail
          go_quiet (fail)
          go_wp2_with fail
          exact HP.out _ _ ⟨n, true, _, rfl, (HU.out.drewN _).drewN _, (HR.out.drewN _).drewN _, hqs, hn, by have h := HOK.out; simpa using h⟩
      · obtain rfl : e1 = false := by rw [he1]; simp; omega
        obtain rfl : e2 = true := by rw [he2]; simp; omega
        have d5 : ((s[p].toNat : Int) != 48) = false := by have := hk3.out; simp; omega
        have HOK := Lib.hid (fin.out false (by
          obtain ⟨_, h5⟩ := H0.out (by omega)
          rw [HWD.out, h5, show s[p] = 48 from UInt8.toNat_inj.1 hk3.out]; simp; omega))
        clear he1 he2 hk1 fin HWD
        rcases hend with rfl | ⟨hlt, hb'⟩ | ⟨hlt, hb'⟩
        · have d0 : decide ((s.size : Int) < s.size) = false := by simp
          go_wp2_with fail
          go_quiet (fail)
          go_wp2_with fail
          go_quiet (fail)
          go_wp2_with fail
          exact HP.out _ _ ⟨n, false, _, rfl, (HU.out.drewN _).drewN _, (HR.out.drewN _).drewN _, hqs, hn, by have h := HOK.out; simpa using h⟩
        · have d0 : decide ((q : Int) < s.size) = true := by simp; omega
          have d1 : decide ((48 : Int) ≤ (s[q].toNat : Int)) = false := by simp; omega
          clear hb'
          go_wp2_with fail
          go_quiet (fail)
          go_wp2_with fail
          go_quiet (fail)
          go_wp2_with fail
          exact HP.out _ _ ⟨n, false, _, rfl, (HU.out.drewN _).drewN _, (HR.out.drewN _).drewN _, hqs, hn, by have h := HOK.out; simpa using h⟩
        · have d0 : decide ((q : Int) < s.size) = true := by simp; omega
          have d1 : decide ((48 : Int) ≤ (s[q].toNat : Int)) = true := by simp; omega
          have d2 : decide ((s[q].toNat : Int) ≤ 57) = false := by simp; omega
          clear hb'
          go_wp2_with fail
          go_quiet (fail)
          go_wp2_with fail
          go_quiet (fail)
          go_wp2_with fail
          exact HP.out _ _ ⟨n, false, _, rfl, (HU.out.drewN _).drewN _, (HR.out.drewN _).drewN _, hqs, hn, by have h := HOK.out; simpa using h⟩
      · obtain rfl : e1 = false := by rw [he1]; simp; omega
        obtain rfl : e2 = true := by rw [he2]; simp; omega
        have d5 : ((s[p].toNat : Int) != 48) = true := by have := hk3.out; simp; omega
        have HOK := Lib.hid (fin.out true (by
          obtain ⟨_, h5⟩ := H0.out (by omega)
          have h6 : s[p] ≠ 48 := fun h => hk3.out (by rw [h]; rfl)
          rw [HWD.out, h5]; simp [h6]; omega))
        clear he1 he2 hk1 fin HWD
        rcases hend with rfl | ⟨hlt, hb'⟩ | ⟨hlt, hb'⟩
        · have d0 : decide ((s.size : Int) < s.size) = false := by simp
          go_wp2_with fail
          go_quiet (fail)
          go_wp2_with fail
          go_quiet (fail)
          go_wp2_with fail
          exact HP.out _ _ ⟨n, true, _, rfl, (HU.out.drewN _).drewN _, (HR.out.drewN _).drewN _, hqs, hn, by have h := HOK.out; simpa using h⟩
        · have d0 : decide ((q : Int) < s.size) = true := by simp; omega
          have d1 : decide ((48 : Int) ≤ (s[q].toNat : Int)) = false := by simp; omega
          clear hb'
          go_wp2_with fail
          go_quiet (fail)
          go_wp2_with fail
          go_quiet (fail)
          go_wp2_with fail
          exact HP.out _ _ ⟨n, true, _, rfl, (HU.out.drewN _).drewN _, (HR.out.drewN _).drewN _, hqs, hn, by have h := HOK.out; simpa using h⟩
        · have d0 : decide ((q : Int) < s.size) = true := by simp; omega
          have d1 : decide ((48 : Int) ≤ (s[q].toNat : Int)) = true := by simp; omega
          have d2 : decide ((s[q].toNat : Int) ≤ 57) = false := by simp; omega
          clear hb'
          go_wp2_with fail
          go_quiet (fail)
          go_wp2_with fail
          go_quiet (fail)
          go_wp2_with fail
          exact HP.out _ _ ⟨n, true, _, rfl, (HU.out.drewN _).drewN _, (HR.out.drewN _).drewN _, hqs, hn, by have h := HOK.out; simpa using h⟩
end Go.Proofs.YtopfpfpefljkkaaDoor
