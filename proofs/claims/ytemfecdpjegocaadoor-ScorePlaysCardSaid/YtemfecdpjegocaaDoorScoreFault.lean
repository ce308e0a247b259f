/- score.New, Fault. -/
import Derived.Test.YtemfecdpjegocaaDoorScore
import Derived.Carry
import Derived.Deep.Cut
namespace Go.Proofs.YtemfecdpjegocaaDoor
open Go.RowKit
set_option linter.unusedVariables false
set_option linter.unusedSimpArgs false

def putA (acc : List UInt8 → Option Acc) (s : List UInt8) (a : Acc) : List UInt8 → Option Acc := fun x => if x = s then some a else acc x
theorem putA_same (acc : List UInt8 → Option Acc) (s : List UInt8) (a : Acc) : putA acc s a s = some a := if_pos rfl
theorem putA_map (acc : List UInt8 → Option Acc) (s : List UInt8) (a : Acc) : (fun k => (putA acc s a k).map Acc.blk) = putM (fun k => (acc k).map Acc.blk) s (some a.blk) := by
  funext x; unfold putA putM; split <;> rfl
theorem putA_twice (acc : List UInt8 → Option Acc) (s : List UInt8) (a b : Acc) : putA (putA acc s a) s b = putA acc s b := by
  funext x; unfold putA; split <;> rfl
theorem putM_same (m : List UInt8 → Option Nat) (s : List UInt8) (o : Option Nat) (h : m s = o) : putM m s o = m := by
  funext x; unfold putM; split
  · rename_i e; rw [e, h]
  · rfl

/-- One account is turned. -/
theorem BoardAt.turn {B bb bm n sz L H N : Nat} {w0 w w' : World} {acc : List UInt8 → Option Acc} (h : BoardAt B bb bm n sz L H N w0 w acc) {s : List UInt8} {a a' : Acc} (ha : acc s = some a) (hu : Upd a.blk w w') (hk : Blk w' a.blk (accV a') 62)
    (hb : a'.blk = a.blk) (hp : a'.pts ≤ 1000000) (ht : a'.at_ ≤ 2305843009213693952) (hl : a'.til ≤ 4611686018427387904) : BoardAt B bb bm n sz L H N w0 w' (putA acc s a') := by
  obtain ⟨⟨_, hB, hne1, hne2⟩, _⟩ := h.ac s a ha
  refine ⟨hu.blk h.bd (Ne.symm hne1), ?_, ?_, ?_, hu.below h.below hB (by have := h.below.size; have := (h.bd.lt); have := h.hb; omega), h.hb, h.lim, fun b cs t hb0 hty => ?_⟩
  · rw [putA_map, hb, putM_same _ _ _ (by rw [ha]; rfl)]
    exact h.mp.kept hu (Ne.symm hne2)
  · intro x b hx
    unfold putA at hx
    split at hx
    · cases hx
      exact ⟨⟨hb ▸ hk, hb ▸ hB, hb ▸ hne1, hb ▸ hne2⟩, hp, ht, hl⟩
    · rename_i hxs
      obtain ⟨⟨k1, k2, k3, k4⟩, k5⟩ := h.ac x b hx
      exact ⟨⟨hu.blk k1 (fun e => hxs (h.inj x s b a hx ha e)), k2, k3, k4⟩, k5⟩
  · intro x y b c hx hy e
    unfold putA at hx hy
    split at hx <;> split at hy
    · simp_all
    · cases hx; rename_i h1 h2; exact absurd (h.inj y s c a hy ha (by rw [← e, hb])) h2
    · cases hy; rename_i h1 h2; exact absurd (h.inj x s b a hx ha (by rw [e, hb])) h1
    · exact h.inj x y b c hx hy e
  · have h1 := h.kp b cs t hb0 hty
    have hlt : b < w.heap.size := h1.lt
    unfold Blk at h1 ⊢
    rw [hu.block b hlt fun e => ?_]
    · exact h1
    · cases e
      have h2 := (h.ac s a ha).1.1
      unfold Blk at h2
      rw [h1] at h2
      cases h2
      exact hty rfl
/-- A new account. -/
theorem BoardAt.add {B bb bm n n' sz sz' L H N : Nat} {w0 w w' : World} {acc : List UInt8 → Option Acc} (h : BoardAt B bb bm n sz L H N w0 w acc) {s : List UInt8} {a : Acc} (hu : Upd bm (w.alloc (.cells (accV a) 62)) w') (hm : PMap Tryd.prog 9 w' bm n' sz' (putM (fun k => (acc k).map Acc.blk) s (some a.blk)))
    (hb : a.blk = w.heap.size) (hp : a.pts ≤ 1000000) (ht : a.at_ ≤ 2305843009213693952) (hl : a.til ≤ 4611686018427387904) : BoardAt B bb bm n' sz' L H N w0 w' (putA acc s a) := by
  have hsz := h.below.size
  have hbl := h.bd.lt
  have hml := h.mp.lt
  obtain ⟨hB1, hB2, hB3⟩ := h.hb
  have hnew := Blk.new w (accV a) 62
  refine ⟨hu.blk (h.bd.alloc _) hB3, ?_, ?_, ?_, hu.below (h.below.alloc (by omega) _) hB2 (by rw [World.size_alloc]; omega), h.hb, h.lim, fun b cs t hb0 hty => ?_⟩
  · rw [putA_map]; exact hm
  · intro x b hx
    unfold putA at hx
    split at hx
    · cases hx
      rw [hb]
      exact ⟨⟨hu.blk hnew (by omega), by omega, by omega, by omega⟩, hp, ht, hl⟩
    · obtain ⟨⟨k1, k2, k3, k4⟩, k5⟩ := h.ac x b hx
      exact ⟨⟨hu.blk (k1.alloc _) k4, k2, k3, k4⟩, k5⟩
  · intro x y b c hx hy e
    unfold putA at hx hy
    split at hx <;> split at hy
    · simp_all
    · cases hx; have := (h.ac y c hy).1.1.lt; omega
    · cases hy; have := (h.ac x b hx).1.1.lt; omega
    · exact h.inj x y b c hx hy e
  · have h1 := h.kp b cs t hb0 hty
    have hlt : b < w.heap.size := h1.lt
    unfold Blk at h1 ⊢
    rw [hu.block b (by rw [World.size_alloc]; omega) fun e => ?_, Below.heap_alloc _ _ _ hlt]
    · exact h1
    · cases e
      obtain ⟨_, ⟨es, clock, hh, _⟩, _⟩ := h.mp
      rw [h1] at hh
      cases hh

set_option maxRecDepth 100000 in
theorem score_new (L H N : Nat) (w : World) (h1 : 1 ≤ L ∧ L ≤ 1000000) (h2 : 1 ≤ H ∧ H ≤ 1099511627776) (h3 : 1 ≤ N ∧ N ≤ 1099511627776) :
    Calls Tryd.prog 8 #[.int .i64 L, .int .i64 H, .int .i64 N] w fun en w' => en = .returned (.tuple #[.pointer (some ⟨w.heap.size + 1, 0, none⟩), .int .i64 0]) ∧ BoardAt w.heap.size (w.heap.size + 1) w.heap.size 0 0 L H N w w' (fun _ => none) := by
  have hmm := @run_makeMap Tryd.prog
  have g1 : decide ((L : Int) < 1) = false := by simp; omega
  have g2 : decide (1000000 < (L : Int)) = false := by simp; omega
  have g3 : decide ((H : Int) < 1) = false := by simp; omega
  have g4 : decide (1099511627776 < (H : Int)) = false := by simp; omega
  have g5 : decide ((N : Int) < 1) = false := by simp; omega
  have g6 : decide (1099511627776 < (N : Int)) = false := by simp; omega
  have HL := Lib.hid (And.intro h1 (And.intro h2 h3))
  clear h1 h2 h3
  go_enter Tryd.func8, Tryd.ntmps8
  go_wp2_with fail
  go_returns
  refine ⟨rfl, ?_⟩
  have hb := Blk.new (w.alloc (.map #[] 0)) #[.int .i64 L, .int .i64 H, .int .i64 N, .map (some w.heap.size)] 58
  rw [World.size_alloc] at hb
  refine ⟨hb, PMap.below (PMap.made w) ((Below.refl _ _).alloc (Nat.le_refl _) _), (fun k a h => by cases h), (fun k k' a a' h => by cases h), ((Below.refl _ _).alloc (Nat.le_refl _) _).alloc (by rw [World.size_alloc]; omega) _, ⟨by omega, by omega, by omega⟩, ⟨HL.out.1.2, HL.out.2.1.1, HL.out.2.1.2, HL.out.2.2.2⟩, fun b cs t hb0 hty => ?_⟩
  have hlt : b < w.heap.size := hb0.lt
  unfold Blk at hb0 ⊢
  rw [Below.heap_alloc _ _ _ (by rw [World.size_alloc]; omega), Below.heap_alloc _ _ _ hlt]
  exact hb0

theorem Blk.cast {w : World} {b : Nat} {cs cs' : Array Value} {t : TypeId} (h : Blk w b cs t) (e : cs = cs') : Blk w b cs' t := e ▸ h
theorem Upd.drewN' {b : Nat} {u v : World} (h : Upd b u v) (n : Nat) : Upd b u (v.drewN n) := ⟨h.os, h.tape, h.output, h.size, h.block⟩
theorem max_if (a b : Nat) : (if (a : Int) < (b : Int) then (b : Int) else (a : Int)) = ((max a b : Nat) : Int) := by
  split <;> omega

set_option maxRecDepth 100000 in
set_option maxHeartbeats 1000000 in
theorem score_fault_old {B bb bm n sz L H N : Nat} {w0 w : World} {acc : List UInt8 → Option Acc} (h : BoardAt B bb bm n sz L H N w0 w acc) (s : ByteArray) (hs : s.size ≤ maxLen) (now : Int) (e : Nat) (he : e < 13) (hT : TabP w) (hmore : 0 < ptsN e) (hn : n < maxLen) (a : Acc) (ha : acc s.data.toList = some a) :
    Calls Tryd.prog 9 #[.pointer (some ⟨bb, 0, none⟩), .string s, .int .i64 now, .int .i64 e] w fun en w' => ∃ n' sz' a0, a0 = a ∧ en = .returned (.int .i64 ((faultA L H N a0 (clampN now) (ptsN e)).pts : Nat)) ∧ n' ≤ n + 1 ∧ BoardAt B bb bm n' sz' L H N w0 w' (putA acc s.data.toList (faultA L H N a0 (clampN now) (ptsN e))) := by
  have hl := h.mp.look pts_types s hs
  rw [ha] at hl
  have CP := Lib.hid (score_points e he w hT)
  have CC := Lib.hid (fun w => score_clamp now w)
  have hcl := clampN_le now
  have hpl := ptsN_le e
  generalize clampN now = t at *
  generalize ptsN e = more at *
  clear hT
  have hmz : ((more : Int) == 0) = false := by simp; omega

  obtain ⟨⟨hk, hB, hne1, hne2⟩, hp, ht, htl⟩ := h.ac _ a ha
  have k0 : w.cell? ⟨a.blk, 0, none⟩ = some (.int .i64 (a.pts : Nat)) := hk.cell 0
  have k1 : w.cell? ⟨a.blk, 1, none⟩ = some (.int .i64 (a.at_ : Nat)) := hk.cell 1
  have k2 : w.cell? ⟨a.blk, 2, none⟩ = some (.int .i64 (a.til : Nat)) := hk.cell 2
  have b0 : w.cell? ⟨bb, 0, none⟩ = some (.int .i64 L) := h.bd.cell 0
  have b1 : w.cell? ⟨bb, 1, none⟩ = some (.int .i64 H) := h.bd.cell 1
  have b2 : w.cell? ⟨bb, 2, none⟩ = some (.int .i64 N) := h.bd.cell 2
  have b3 : w.cell? ⟨bb, 3, none⟩ = some (.map (some bm)) := h.bd.cell 3
  have f0 : w.frozen? ⟨a.blk, 0, none⟩ = false := hk.free 0
  have f1 : w.frozen? ⟨a.blk, 1, none⟩ = false := hk.free 1
  have f2 : w.frozen? ⟨a.blk, 2, none⟩ = false := hk.free 2
  have CA := Lib.hid (fun j => score_at bb a.blk H a.pts a.at_ t (w.drewN j) h.lim.2.1 (by omega) ht hcl k0 k1 b1)
  have hpa := pAt_le H a.pts a.at_ t
  have hfa : faultA L H N a t more = if L ≤ pAt H a.pts a.at_ t + more then ⟨a.blk, 0, max a.at_ t, max a.til (max a.at_ t + N)⟩ else ⟨a.blk, pAt H a.pts a.at_ t + more, max a.at_ t, a.til⟩ := rfl
  generalize pAt H a.pts a.at_ t = p at *
  have hlim := h.lim
  have hm1 : (a.at_ < t ∧ max a.at_ t = t) ∨ (t ≤ a.at_ ∧ max a.at_ t = a.at_) := by omega
  have hM : max a.at_ t ≤ 2305843009213693952 := by omega
  generalize max a.at_ t = M at *
  have hm2 : (a.til < M + N ∧ max a.til (M + N) = M + N) ∨ (M + N ≤ a.til ∧ max a.til (M + N) = a.til) := by omega
  have hU : max a.til (M + N) ≤ 4611686018427387904 := by omega
  generalize max a.til (M + N) = U at *
  have H0 := Lib.hid (And.intro h (And.intro ha hk))
  have HFA := Lib.hid hfa
  have HNE := Lib.hid (And.intro hB (And.intro hne1 hne2))
  simp only [Option.map_some, pv] at hl
  clear h ha hk hfa hB
  obtain ⟨q, hq⟩ : ∃ q, q = a.blk := ⟨_, rfl⟩
  rw [← hq] at k0 k1 k2 f0 f1 f2 hl hne1 hne2 CA
  by_cases c : L ≤ p + more
  · have hd : decide ((L : Int) ≤ (p : Int) + (more : Int)) = true := by simp; omega
    have hres : faultA L H N a t more = ⟨a.blk, 0, M, U⟩ := by rw [HFA.out, if_pos c]
    have HRES := Lib.hid hres
    have HQ := Lib.hid hq
    clear hres hq c
    rcases hm1 with ⟨c1, rfl⟩ | ⟨c1, rfl⟩
    all_goals
      rcases hm2 with ⟨c2, rfl⟩ | ⟨c2, rfl⟩
      all_goals
        go_enter Tryd.func9, Tryd.ntmps9
        go_wp2_with fail
        refine CP.out.mono ?_
        rintro e w1 ⟨rfl, rfl⟩
        go_wp2_with fail
        refine (CC.out _).mono ?_
        rintro e w1 ⟨rfl, rfl⟩
        go_wp2_with fail
        refine (CA.out 0).mono ?_
        rintro e w1 ⟨rfl, k, rfl⟩
        go_wp2_with fail
        go_quiet (fail)
        go_upto_region 15 with fail
        refine wp_region_drew_tail 17 (by kernel_rfl) (by kernel_rfl) ?_
        simp only [List.take_succ_cons, List.take_zero, List.drop_succ_cons, List.drop_zero]
        repeat (go_big_quiet_step (fail))
        refine wpQuiet_nil ?_
        intro k17
        go_wp2_with fail
        go_returns
        have hq := HQ.out
        subst hq
        refine ⟨n, sz, a, rfl, by rw [HRES.out]; rfl, by omega, ?_⟩
        rw [HRES.out]
        refine H0.out.1.turn H0.out.2.1 (a' := ⟨a.blk, 0, _, _⟩) ?_ ?_ rfl (by simp only; omega) (by simp only; omega) (by simp only; omega)
        · exact ((((((((Upd.refl _ _).drewN' _).set 0 _).set 1 _).drewN' _).set 0 _).drewN' _).set 2 _)
        · refine Blk.cast ((((((((H0.out.2.2).drewN _).set 0 _).set 1 _).drewN _).set 0 _).drewN _).set 2 _) ?_
          simp [accV]
  · have hd : decide ((L : Int) ≤ (p : Int) + (more : Int)) = false := by simp; omega
    have hres : faultA L H N a t more = ⟨a.blk, p + more, M, a.til⟩ := by rw [HFA.out, if_neg c]
    have HRES := Lib.hid hres
    have HQ := Lib.hid hq
    clear hres hq hm2
    rcases hm1 with ⟨c1, rfl⟩ | ⟨c1, rfl⟩
    all_goals
      skip
      all_goals
        go_enter Tryd.func9, Tryd.ntmps9
        go_wp2_with fail
        refine CP.out.mono ?_
        rintro e w1 ⟨rfl, rfl⟩
        go_wp2_with fail
        refine (CC.out _).mono ?_
        rintro e w1 ⟨rfl, rfl⟩
        go_wp2_with fail
        refine (CA.out 0).mono ?_
        rintro e w1 ⟨rfl, k, rfl⟩
        go_wp2_with fail
        go_quiet (fail)
        go_wp2_with fail
        go_returns
        have hq := HQ.out
        subst hq
        refine ⟨n, sz, a, rfl, by rw [HRES.out]; rfl, by omega, ?_⟩
        rw [HRES.out]
        refine H0.out.1.turn H0.out.2.1 (a' := ⟨a.blk, p + more, _, a.til⟩) ?_ ?_ rfl (by simp only; omega) (by simp only; omega) (by simp only; omega)
        · exact (((((Upd.refl _ _).drewN' _).set 0 _).set 1 _).drewN' _)
        · refine Blk.cast (((((H0.out.2.2).drewN _).set 0 _).set 1 _).drewN _) ?_
          simp [accV]

set_option maxRecDepth 100000 in
set_option maxHeartbeats 1000000 in
theorem score_fault_new {B bb bm n sz L H N : Nat} {w0 w : World} {acc : List UInt8 → Option Acc} (h : BoardAt B bb bm n sz L H N w0 w acc) (s : ByteArray) (hs : s.size ≤ maxLen) (now : Int) (e : Nat) (he : e < 13) (hT : TabP w) (hmore : 0 < ptsN e) (hn : n < maxLen) (ha : acc s.data.toList = none) :
    Calls Tryd.prog 9 #[.pointer (some ⟨bb, 0, none⟩), .string s, .int .i64 now, .int .i64 e] w fun en w' => ∃ n' sz' a0, (a0.pts = 0 ∧ a0.at_ = clampN now ∧ a0.til = 0) ∧ en = .returned (.int .i64 ((faultA L H N a0 (clampN now) (ptsN e)).pts : Nat)) ∧ n' ≤ n + 1 ∧ BoardAt B bb bm n' sz' L H N w0 w' (putA acc s.data.toList (faultA L H N a0 (clampN now) (ptsN e))) := by
  have hl := h.mp.look pts_types s hs
  rw [ha] at hl
  have CP := Lib.hid (score_points e he w hT)
  have CC := Lib.hid (fun w => score_clamp now w)
  have hcl := clampN_le now
  have hpl := ptsN_le e
  generalize clampN now = t at *
  generalize ptsN e = more at *
  clear hT
  have hmz : ((more : Int) == 0) = false := by simp; omega
  simp only [Option.map_none, pv] at hl
  have b3 : w.cell? ⟨bb, 3, none⟩ = some (.map (some bm)) := h.bd.cell 3
  obtain ⟨g, hg⟩ : ∃ g, w.heap.size = g := ⟨_, rfl⟩
  have b4 : (w.alloc (.cells #[.int .i64 0, .int .i64 (t : Nat), .int .i64 0] 62)).cell? ⟨bb, 3, none⟩ = some (.map (some bm)) := (h.bd.alloc _).cell 3
  have hm0 := Lib.hid (h.mp.below ((Below.refl _ _).alloc (Nat.le_refl _) (.cells #[.int .i64 0, .int .i64 (t : Nat), .int .i64 0] 62)))
  have h00 := Lib.hid h
  have hga := Lib.hid hg
  have ha0 := Lib.hid ha
  clear h ha
  go_enter Tryd.func9, Tryd.ntmps9
  go_wp2_with fail
  refine CP.out.mono ?_
  rintro e w1 ⟨rfl, rfl⟩
  go_wp2_with fail
  refine (CC.out _).mono ?_
  rintro e w1 ⟨rfl, rfl⟩
  go_wp2_with (first | (at_mapUpdate; refine wpList_pmap_store rfl (.tmp 37) (.tmp 38) (.tmp 39) rfl pts_types hm0.out rfl s rfl hs g rfl hn ?_; intro w2 hm2 hu2))
  have hN0 : Hid (∃ sz', BoardAt B bb bm (n + 1) sz' L H N w0 w2 (putA acc s.data.toList ⟨g, 0, t, 0⟩)) := ⟨_, h00.out.add (a := ⟨g, 0, t, 0⟩) hu2 hm2 hga.out.symm (by simp) hcl (by simp)⟩
  obtain ⟨sz', hN⟩ := hN0.out
  have ha : putA acc s.data.toList ⟨g, 0, t, 0⟩ s.data.toList = some ⟨g, 0, t, 0⟩ := putA_same _ _ _
  have hres0 : ∀ z, putA (putA acc s.data.toList ⟨g, 0, t, 0⟩) s.data.toList z = putA acc s.data.toList z := fun z => putA_twice _ _ _ _
  obtain ⟨a, haq⟩ : ∃ a : Acc, a = ⟨g, 0, t, 0⟩ := ⟨_, rfl⟩
  rw [← haq] at hN ha hres0
  have hq : g = a.blk := by rw [haq]
  have haq2 : Hid (a.pts = 0 ∧ a.at_ = t ∧ a.til = 0) := by rw [haq]; exact ⟨rfl, rfl, rfl⟩
  generalize putA acc s.data.toList a = acc2 at *
  clear hN0 hm2 hu2 hm0 h00 hga ha0 haq b3 b4 hl

  obtain ⟨⟨hk, hB, hne1, hne2⟩, hp, ht, htl⟩ := hN.ac _ a ha
  have k0 : w2.cell? ⟨a.blk, 0, none⟩ = some (.int .i64 (a.pts : Nat)) := hk.cell 0
  have k1 : w2.cell? ⟨a.blk, 1, none⟩ = some (.int .i64 (a.at_ : Nat)) := hk.cell 1
  have k2 : w2.cell? ⟨a.blk, 2, none⟩ = some (.int .i64 (a.til : Nat)) := hk.cell 2
  have b0 : w2.cell? ⟨bb, 0, none⟩ = some (.int .i64 L) := hN.bd.cell 0
  have b1 : w2.cell? ⟨bb, 1, none⟩ = some (.int .i64 H) := hN.bd.cell 1
  have b2 : w2.cell? ⟨bb, 2, none⟩ = some (.int .i64 N) := hN.bd.cell 2
  have b3 : w2.cell? ⟨bb, 3, none⟩ = some (.map (some bm)) := hN.bd.cell 3
  have f0 : w2.frozen? ⟨a.blk, 0, none⟩ = false := hk.free 0
  have f1 : w2.frozen? ⟨a.blk, 1, none⟩ = false := hk.free 1
  have f2 : w2.frozen? ⟨a.blk, 2, none⟩ = false := hk.free 2
  have CA := Lib.hid (fun j => score_at bb a.blk H a.pts a.at_ t (w2.drewN j) hN.lim.2.1 (by omega) ht hcl k0 k1 b1)
  have hpa := pAt_le H a.pts a.at_ t
  have hfa : faultA L H N a t more = if L ≤ pAt H a.pts a.at_ t + more then ⟨a.blk, 0, max a.at_ t, max a.til (max a.at_ t + N)⟩ else ⟨a.blk, pAt H a.pts a.at_ t + more, max a.at_ t, a.til⟩ := rfl
  generalize pAt H a.pts a.at_ t = p at *
  have hlim := hN.lim
  have hm1 : (a.at_ < t ∧ max a.at_ t = t) ∨ (t ≤ a.at_ ∧ max a.at_ t = a.at_) := by omega
  have hM : max a.at_ t ≤ 2305843009213693952 := by omega
  generalize max a.at_ t = M at *
  have hm2 : (a.til < M + N ∧ max a.til (M + N) = M + N) ∨ (M + N ≤ a.til ∧ max a.til (M + N) = a.til) := by omega
  have hU : max a.til (M + N) ≤ 4611686018427387904 := by omega
  generalize max a.til (M + N) = U at *
  have H0 := Lib.hid (And.intro hN (And.intro ha hk))
  have HFA := Lib.hid hfa
  have HNE := Lib.hid (And.intro hB (And.intro hne1 hne2))
  have HP2 := Lib.hid hres0
  clear hN ha hk hfa hB hres0
  rw [← hq] at k0 k1 k2 f0 f1 f2 hne1 hne2 CA
  by_cases c : L ≤ p + more
  · have hd : decide ((L : Int) ≤ (p : Int) + (more : Int)) = true := by simp; omega
    have hres : faultA L H N a t more = ⟨a.blk, 0, M, U⟩ := by rw [HFA.out, if_pos c]
    have HRES := Lib.hid hres
    have HQ := Lib.hid hq
    clear hres hq c
    rcases hm1 with ⟨c1, rfl⟩ | ⟨c1, rfl⟩
    all_goals
      rcases hm2 with ⟨c2, rfl⟩ | ⟨c2, rfl⟩
      all_goals
        go_wp2_with fail
        refine (CA.out 0).mono ?_
        rintro e w9 ⟨rfl, k, rfl⟩
        go_wp2_with fail
        go_quiet (fail)
        go_upto_region 15 with fail
        refine wp_region_drew_tail 17 (by kernel_rfl) (by kernel_rfl) ?_
        simp only [List.take_succ_cons, List.take_zero, List.drop_succ_cons, List.drop_zero]
        repeat (go_big_quiet_step (fail))
        refine wpQuiet_nil ?_
        intro k17
        go_wp2_with fail
        go_returns
        have hq := HQ.out
        subst hq
        refine ⟨n + 1, sz', a, haq2.out, by rw [HRES.out]; rfl, by omega, ?_⟩
        rw [HRES.out]; rw [← HP2.out]
        refine H0.out.1.turn H0.out.2.1 (a' := ⟨a.blk, 0, _, _⟩) ?_ ?_ rfl (by simp only; omega) (by simp only; omega) (by simp only; omega)
        · exact ((((((((Upd.refl _ _).drewN' _).set 0 _).set 1 _).drewN' _).set 0 _).drewN' _).set 2 _)
        · refine Blk.cast ((((((((H0.out.2.2).drewN _).set 0 _).set 1 _).drewN _).set 0 _).drewN _).set 2 _) ?_
          simp [accV]
  · have hd : decide ((L : Int) ≤ (p : Int) + (more : Int)) = false := by simp; omega
    have hres : faultA L H N a t more = ⟨a.blk, p + more, M, a.til⟩ := by rw [HFA.out, if_neg c]
    have HRES := Lib.hid hres
    have HQ := Lib.hid hq
    clear hres hq hm2
    rcases hm1 with ⟨c1, rfl⟩ | ⟨c1, rfl⟩
    all_goals
      skip
      all_goals
        go_wp2_with fail
        refine (CA.out 0).mono ?_
        rintro e w9 ⟨rfl, k, rfl⟩
        go_wp2_with fail
        go_quiet (fail)
        go_wp2_with fail
        go_returns
        have hq := HQ.out
        subst hq
        refine ⟨n + 1, sz', a, haq2.out, by rw [HRES.out]; rfl, by omega, ?_⟩
        rw [HRES.out]; rw [← HP2.out]
        refine H0.out.1.turn H0.out.2.1 (a' := ⟨a.blk, p + more, _, a.til⟩) ?_ ?_ rfl (by simp only; omega) (by simp only; omega) (by simp only; omega)
        · exact (((((Upd.refl _ _).drewN' _).set 0 _).set 1 _).drewN' _)
        · refine Blk.cast (((((H0.out.2.2).drewN _).set 0 _).set 1 _).drewN _) ?_
          simp [accV]

end Go.Proofs.YtemfecdpjegocaaDoor
