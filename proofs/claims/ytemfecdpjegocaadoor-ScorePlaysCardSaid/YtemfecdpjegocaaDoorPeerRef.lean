/- The document's board: Clip, At, Find, Score, Banned. -/
import Derived.Test.YtemfecdpjegocaaDoorPeerOwn
import Derived.Test.YtemfecdpjegocaaDoorScoreBans
import Derived.IntWalk
import Derived.Lib.Strings
namespace Go.Proofs.YtemfecdpjegocaaDoor
open Go.RowKit Go.Maps
set_option linter.unusedVariables false
set_option linter.unusedSimpArgs false

theorem doc_clip (now : Int) (w : World) : Calls Tryd.prog 30 #[.int .i64 now] w fun en w' => en = .returned (.int .i64 (clampN now : Nat)) ∧ w' = w := by
  unfold clampN
  by_cases c1 : now < 0
  · have d1 : decide (now < 0) = true := by simp; exact c1
    rw [if_pos c1]
    clear c1
    go_enter Tryd.func30, Tryd.ntmps30
    go_wp2_with fail
    go_returns
    exact ⟨rfl, rfl⟩
  · have d1 : decide (now < 0) = false := by simp; omega
    rw [if_neg c1]
    by_cases c2 : 2305843009213693952 < now
    · have d2 : decide (2305843009213693952 < now) = true := by simp; exact c2
      rw [if_pos c2]
      clear c1 c2
      go_enter Tryd.func30, Tryd.ntmps30
      go_wp2_with fail
      go_returns
      exact ⟨rfl, rfl⟩
    · have d2 : decide (2305843009213693952 < now) = false := by simp; omega
      rw [if_neg c2]
      obtain ⟨n, rfl⟩ : ∃ n : Nat, now = n := ⟨now.toNat, by omega⟩
      clear c1 c2
      go_enter Tryd.func30, Tryd.ntmps30
      go_wp2_with fail
      go_returns
      exact ⟨rfl, rfl⟩

def timesN (H at_ t : Nat) : Nat := (t - at_) / H
theorem pAt_21 (H pts at_ t : Nat) (hp : pts ≤ 1000000) : pAt H pts at_ t = pts / 2 ^ (min (timesN H at_ t) 21) := by
  have hz : ∀ k, 20 ≤ k → pts / 2 ^ k = 0 := fun k hk => by
    rw [Nat.div_eq_zero_iff]
    right
    have : 2 ^ 20 ≤ 2 ^ k := Nat.pow_le_pow_right (by omega) hk
    omega
  unfold pAt timesN halfN
  split
  · rename_i h
    rw [Nat.sub_eq_zero_of_le h, Nat.zero_div]
    simp
  · split
    · by_cases c : (t - at_) / H ≤ 21
      · rw [Nat.min_eq_left c]
      · rw [Nat.min_eq_right (by omega), hz _ (by omega), hz _ (by omega)]
    · rw [Nat.min_eq_right (by omega), hz _ (by omega), hz _ (by omega)]
def halvesN (p k : Nat) : Nat := p / 2 ^ k
theorem half_step (p k : Nat) : halvesN p k / 2 = halvesN p (k + 1) := by unfold halvesN; rw [Nat.div_div_eq_div_mul, Nat.pow_succ]
theorem halves_le (p k : Nat) : halvesN p k ≤ p := Nat.div_le_self _ _
theorem halves_0 (p : Nat) : halvesN p 0 = p := by unfold halvesN; simp

set_option maxRecDepth 100000 in
set_option maxHeartbeats 1000000 in
theorem doc_at (L H N : Nat) (ao : Option Addr) (n cap : Nat) (p : Pr) (now : Int) (w : World) (hH : 1 ≤ H ∧ H ≤ 1099511627776) (hp : p.pts ≤ 1000000) (ha : p.at_ ≤ 2305843009213693952) :
    Calls Tryd.prog 29 #[.agg #[.int .i64 L, .int .i64 H, .int .i64 N, .slice ao n cap], .agg p.cs, .int .i64 now] w fun en w' => en = .returned (.int .i64 (pAt H p.pts p.at_ (clampN now) : Nat)) ∧ Below w.heap.size w w' := by
  have CC := Lib.hid (fun W => doc_clip now W)
  have ht := clampN_le now
  rw [pAt_21 _ _ _ _ hp]
  obtain ⟨pn, pp, pa, pu⟩ := p
  simp only [Pr.cs] at *
  generalize clampN now = t at *
  obtain ⟨g, hg⟩ : ∃ g, w.heap.size = g := ⟨_, rfl⟩
  have HW : Hid (∀ W, (w.alloc (.cells #[.int .i64 L, .int .i64 H, .int .i64 N, .slice ao n cap] 43)).alloc (.cells #[.string pn, .int .i64 pp, .int .i64 pa, .int .i64 pu] 53) = W → Below g w W ∧ Blk W g #[.int .i64 L, .int .i64 H, .int .i64 N, .slice ao n cap] 43 ∧ Blk W (g + 1) #[.string pn, .int .i64 pp, .int .i64 pa, .int .i64 pu] 53) := fun W hW => by
    subst hW
    have h2 := Blk.new (w.alloc (.cells #[.int .i64 L, .int .i64 H, .int .i64 N, .slice ao n cap] 43)) #[.string pn, .int .i64 pp, .int .i64 pa, .int .i64 pu] 53
    rw [World.size_alloc, hg] at h2
    exact ⟨((Below.refl _ _).alloc (by omega) _).alloc (by simp; omega) _, (hg ▸ Blk.new w _ _).alloc _, h2⟩
  obtain ⟨T, hT⟩ : ∃ T, timesN H pa t = T := ⟨_, rfl⟩
  have hTT : Hid (timesN H pa t = T) := hT
  rw [hT]
  obtain ⟨M, hM⟩ : ∃ M, min T 21 = M := ⟨_, rfl⟩
  have hM1 : M ≤ T ∧ M ≤ 21 ∧ (M = T ∨ M = 21) := by omega
  rw [hM]
  change Calls _ _ _ _ (fun en w' => en = .returned (.int .i64 (halvesN pp M : Nat)) ∧ Below w.heap.size w w')
  have hTq : T ≤ 2305843009213693952 := by rw [← hT]; exact Nat.le_trans (Nat.div_le_self _ _) (by omega)
  have key : ∀ gone : Nat, gone = t - pa → ((gone : Int).tdiv (H : Int)) = (T : Int) := fun gone hgn => by
    rw [Int.tdiv_eq_ediv_of_nonneg (by omega), ← hT]; unfold timesN; rw [hgn, Int.natCast_ediv]
  have KEY := Lib.hid key
  have HM1 := Lib.hid hM1
  clear hT hM key hM1
  have hw1 : IntKind.i64.wrap ((t : Int) - (pa : Int)) = (t : Int) - (pa : Int) := IntWalk.i64_in _ (by omega)
  go_enter Tryd.func29, Tryd.ntmps29
  go_upto_region 1 with fail
  generalize (w.alloc (.cells #[.int .i64 L, .int .i64 H, .int .i64 N, .slice ao n cap] 43)).alloc (.cells #[.string pn, .int .i64 pp, .int .i64 pa, .int .i64 pu] 53) = w1 at *
  obtain ⟨hb1, k1, k2⟩ := HW.out _ rfl
  have x1 : w1.cell? ⟨g, 1, none⟩ = some (.int .i64 H) := k1.cell 1
  have x2 : w1.cell? ⟨g + 1, 1, none⟩ = some (.int .i64 pp) := k2.cell 1
  have x3 : w1.cell? ⟨g + 1, 2, none⟩ = some (.int .i64 pa) := k2.cell 2
  have HB1 := Lib.hid hb1
  clear HW k1 k2 hb1
  refine wp_region_quiet_lit (by kernel_rfl) (by kernel_rfl) ?_
  go_big_quiet_step (fail)
  go_big_quiet_step (exact Calls.quiet_of_same (CC.out _))
  repeat (go_big_quiet_step (fail))
  refine wpQuiet_nil ?_
  rintro _ ⟨nq, rfl⟩
  clear hw1
  have z1 : (w1.drewN nq).cell? ⟨g, 1, none⟩ = some (.int .i64 H) := x1
  have z2 : (w1.drewN nq).cell? ⟨g + 1, 1, none⟩ = some (.int .i64 pp) := x2
  clear x1 x2 x3
  have hBq : Hid (Below g w (w1.drewN nq)) := HB1.out.trans ⟨rfl, rfl, rfl, Nat.le_refl _, fun _ _ => rfl⟩
  generalize w1.drewN nq = w2 at *
  by_cases c : t < pa
  · have d1 : decide ((t : Int) - (pa : Int) < 0) = true := by simp; omega
    have hT0 : T = 0 := by have := KEY.out 0 (by omega); simpa using this.symm
    have HM0 : Hid (M = 0) := by have := HM1.out; unfold Hid; omega
    clear hT0
    go_wp2_with fail
    go_loopw [9, 10] (fun nv iv wi => iv = .int .i64 0 ∧ nv = .int .i64 (pp : Nat) ∧ wi = w2) (fun _ iv _ => 0)
    case atStart => exact ⟨rfl, rfl, rfl⟩
    case round =>
      obtain ⟨rfl, rfl, rfl⟩ := hrel
      go_wp2_with fail
      go_returns
      exact ⟨by rw [HM0.out, halves_0]; rfl, hg ▸ hBq.out⟩
  · have d1 : decide ((t : Int) - (pa : Int) < 0) = false := by simp; omega
    have hq : ((t : Int) - (pa : Int)) / (H : Int) = (T : Int) := by have := KEY.out (t - pa) rfl; rw [Int.tdiv_eq_ediv_of_nonneg (by omega)] at this; rwa [Int.ofNat_sub (by omega)] at this
    go_wp2_with fail
    rw [hq]
    clear hq
    go_loopw [9, 10] (fun nv iv wi => ∃ k : Nat, iv = .int .i64 k ∧ k ≤ M ∧ nv = .int .i64 (halvesN pp k : Nat) ∧ wi = w2) (fun _ iv _ => M - (intOf iv).toNat)
    case atStart => exact ⟨0, rfl, by omega, by rw [halves_0], rfl⟩
    case round =>
      obtain ⟨k, rfl, hk, rfl, rfl⟩ := hrel
      have hM1 := HM1.out
      have hle : halvesN pp k ≤ 1000000 := Nat.le_trans (halves_le _ _) hp
      have hst := half_step pp k
      by_cases ck : k < M
      · have e1 : decide (k < T) = true := by simp; omega
        have e2 : decide ((k : Int) < 21) = true := by simp; omega
        obtain ⟨v, hv⟩ : ∃ v, halvesN pp k = v := ⟨_, rfl⟩
        rw [hv] at hle hst ⊢
        have HST := Lib.hid hst
        have hk21 : k ≤ 21 := by omega
        clear hst hv hM1
        go_wp2_with fail
        go_roundw
        case rel => exact ⟨k + 1, by go_num, by omega, by rw [← HST.out]; go_num, trivial⟩
        case measure => simp [intOf]; omega
      · obtain rfl : k = M := by omega
        obtain ⟨v, hv⟩ : ∃ v, halvesN pp k = v := ⟨_, rfl⟩
        have HV := Lib.hid hv
        rw [hv] at hle
        rw [hv]
        clear hst hv
        have e12 : decide (k < T) = false ∨ (decide (k < T) = true ∧ decide ((k : Int) < 21) = false) := by
          by_cases c3 : k < T
          · exact .inr ⟨by simp; omega, by simp; omega⟩
          · exact .inl (by simp; omega)
        clear hM1
        rcases e12 with e1 | ⟨e1, e2⟩
        all_goals
          go_wp2_with fail
          go_returns
          exact ⟨by rw [HV.out]; rfl, hg ▸ hBq.out⟩

/-- Where a peer is. -/
def idxQ (K : List Pr) (s : ByteArray) : Nat := K.findIdx fun p : Pr => decide (p.name = s)
theorem idxQ_lt {K : List Pr} {s : ByteArray} (h : idxQ K s < K.length) : K[idxQ K s].name = s := by
  have := List.findIdx_getElem (xs := K) (p := fun p : Pr => decide (p.name = s)) (w := h)
  exact of_decide_eq_true this
theorem idxQ_before {K : List Pr} {s : ByteArray} {i : Nat} (h : i < idxQ K s) (hl : i < K.length) : K[i].name ≠ s := by
  have := List.not_of_lt_findIdx (xs := K) (p := fun p : Pr => decide (p.name = s)) h
  exact of_decide_eq_false this
theorem idxQ_le (K : List Pr) (s : ByteArray) : idxQ K s ≤ K.length := List.findIdx_le_length
/-- What Find answers. -/
def findZ (K : List Pr) (s : ByteArray) : Int := if idxQ K s < K.length then (idxQ K s : Int) else -1

set_option maxRecDepth 100000 in
set_option maxHeartbeats 1000000 in
theorem doc_find {L H N : Nat} {v : Value} {K : List Pr} {w : World} (h : QV w v K) (hl : K.length ≤ 100000) (s : ByteArray) (hK : ∀ p ∈ K, p.name.size ≤ 100000) (hs : s.size ≤ 100000) :
    Calls Tryd.prog 22 #[.agg #[.int .i64 L, .int .i64 H, .int .i64 N, v], .string s] w fun en w' => en = .returned (.int .i64 (findZ K s)) ∧ Below w.heap.size w w' := by
  obtain ⟨ao, cap, rfl⟩ := h.slice
  obtain ⟨g, hg⟩ : ∃ g, w.heap.size = g := ⟨_, rfl⟩
  have HW : Hid (∀ W, w.alloc (.cells #[.int .i64 L, .int .i64 H, .int .i64 N, .slice ao K.length cap] 43) = W → Below g w W ∧ Blk W g #[.int .i64 L, .int .i64 H, .int .i64 N, .slice ao K.length cap] 43 ∧ QV W (.slice ao K.length cap) K) := fun W hW => by
    subst hW
    have hal := (Below.refl w.heap.size w).alloc (Nat.le_refl _) (.cells #[.int .i64 L, .int .i64 H, .int .i64 N, .slice ao K.length cap] 43)
    exact ⟨hg ▸ hal, hg ▸ Blk.new w _ _, h.below hal⟩
  obtain ⟨M, hM⟩ : ∃ M, K.length = M := ⟨_, rfl⟩
  rw [hM] at HW hl ⊢
  have HF : Hid (∀ i : Nat, i ≤ M → (∀ j (hj : j < M), j < i → K[j].name ≠ s) → (i = M → findZ K s = -1) ∧ ∀ (hi : i < M), K[i].name = s → findZ K s = i) := fun i hi hno => by
    have hge : i ≤ idxQ K s := by
      rcases Nat.lt_or_ge (idxQ K s) i with h | h
      · exact absurd (idxQ_lt (by omega)) (hno _ (by omega) h)
      · exact h
    refine ⟨fun e => ?_, fun hi2 he => ?_⟩
    · unfold findZ; rw [if_neg (by omega)]
    · have hle : idxQ K s ≤ i := by
        rcases Nat.lt_or_ge i (idxQ K s) with h | h
        · exact absurd he (idxQ_before h (by omega))
        · exact h
      unfold findZ
      rw [if_pos (by omega)]
      have : idxQ K s = i := by omega
      rw [this]
  clear h
  go_enter Tryd.func22, Tryd.ntmps22
  go_upto_region 1 with fail
  generalize w.alloc (.cells #[.int .i64 L, .int .i64 H, .int .i64 N, .slice ao M cap] 43) = w1 at *
  obtain ⟨hb1, k1, hq1⟩ := HW.out _ rfl
  have HB1 := Lib.hid hb1
  have HQ1 := Lib.hid hq1
  have x3 : w1.cell? ⟨g, 3, none⟩ = some (.slice ao M cap) := k1.cell 3
  clear HW hb1 k1 hq1
  go_wp2_with fail
  go_loopw [5] (fun iv wi => ∃ i : Nat, iv = .int .i64 i ∧ i ≤ M ∧ Hid (∀ j (hj : j < M), j < i → K[j].name ≠ s) ∧ wi = w1) (fun iv _ => M - (intOf iv).toNat)
  case atStart => exact ⟨0, rfl, by omega, fun j _ h => absurd h (Nat.not_lt_zero j), rfl⟩
  case round =>
    obtain ⟨i, rfl, hi, hno, rfl⟩ := hrel
    obtain ⟨f1, f2⟩ := HF.out i hi hno.out
    by_cases c : i < M
    · have c' : i < K.length := by omega
      have hq := HQ1.out
      rw [← hM] at hq
      obtain ⟨gb, rfl, hlb, y0, _, _, _⟩ := hq.at_ c'
      have hsz := hK _ (List.getElem_mem c')
      have hnx : Hid (K[i].name ≠ s → ∀ j (hj : j < M), j < i + 1 → K[j].name ≠ s) := fun hne j hj hj2 => by
        by_cases e : j = i
        · subst e; exact hne
        · exact hno.out j hj (by omega)
      have F2 := Lib.hid (f2 c)
      clear f1 f2 hq
      generalize K[i].name = nm at *
      by_cases he : nm = s
      · subst he
        have hbt : (nm.toList == nm.toList) = true := by simp
        have hf := F2.out rfl
        have HFZ := Lib.hid hf
        clear hf F2 hnx
        go_wp2_with fail
        go_returns
        exact ⟨by rw [HFZ.out]; rfl, hg ▸ HB1.out⟩
      · have hbf : (nm.toList == s.toList) = false := by rw [Lib.toList_data, Lib.toList_data, beq_eq_false_iff_ne]; exact fun e => he (Go.WideShapes.bytes_inj e)
        have HNX := Lib.hid (hnx.out he)
        clear F2 hnx he
        go_wp2_with fail
        go_roundw
        case rel => exact ⟨i + 1, by go_num, by omega, HNX, trivial⟩
        case measure => simp [intOf]; omega
    · obtain rfl : i = M := by omega
      have HFZ := Lib.hid (f1 rfl)
      clear f1 f2
      go_wp2_with fail
      go_returns
      exact ⟨by rw [HFZ.out]; rfl, hg ▸ HB1.out⟩
end Go.Proofs.YtemfecdpjegocaaDoor
